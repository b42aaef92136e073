/-
  control.Encode: a packet that may be, as bytes. (The statement with the three numbers draws its order: 24 orders; this text takes some eight minutes.)
-/
import Derived.Test.YtpglhnbekpafeaaDoorEc
namespace Go.Proofs.YtpglhnbekpafeaaDoor
set_option linter.unusedVariables false
set_option linter.unusedSimpArgs false
open Go Go.RowKit
attribute [local go_sem ↓] exec_loadNote exec_storeNote Go.wp_at_zero Go.wp_at_succ
attribute [local go_sem] ldRow_ptr ldFin_some cellsAt_succ cellsAt_zero allSome_cons allSome_nil stRow_ptr stFin_true allOne_cons allOne_nil there_succ there_zero frozens_succ frozens_zero one_int one_bool one_slice putCells_alloc_at putCells_alloc_old over_all
set_option maxHeartbeats 8000000 in
theorem encode_yes (p : Pkt) (bs : List Int) (w : World) (hl : HasLaid w) (hsrc : Src w p.note.ba p.note.bl bs) (hfar : ∀ x, p.note.ba = some x → x.block < w.heap.size) (hyes : encB p = true) : Calls Tryd.prog 30 #[p.val] w (EncPost w p bs) := by
  obtain ⟨i0, hi, hz0, hz1, hz2⟩ := u8Info
  have hbx := Boxes.mk2 w p
  have Hr := Lib.hid (right_any p.note _ (hl.below hbx.bel hl.1))
  have Hbx := Lib.hid hbx
  have Hl := Lib.hid hl
  have Hsrc := Lib.hid hsrc
  have Hfar := Lib.hid (fun x (e : p.note.ba = some x) => show x.block < w.heap.size + 2 from Nat.lt_of_lt_of_le (hfar x e) (by omega))
  clear hl hbx hsrc hfar
  have Hpost := Lib.hid (fun W v (hv : Bytes W w.heap.size v (encL p bs)) (hB : Below w.heap.size w W) => show EncPost w p bs (.returned (.tuple #[v, iV 0])) W from ⟨_, by rw [hyes]; rfl, by rw [hyes]; exact hv, hB⟩)
  have hh : rightB p.note = true ∧ numB p.epoch = true ∧ numB p.seq = true ∧ numB p.ack = true := by
    unfold encB at hyes
    simp only [Bool.and_eq_true] at hyes
    exact ⟨hyes.1.1.1, hyes.1.1.2, hyes.1.2, hyes.2⟩
  clear hyes
  obtain ⟨hR, hE, hS, hA⟩ := hh
  have hE' : 0 ≤ p.epoch ∧ p.epoch ≤ 1073741824 := of_decide_eq_true hE
  have hS' : 0 ≤ p.seq ∧ p.seq ≤ 1073741824 := of_decide_eq_true hS
  have hA' : 0 ≤ p.ack ∧ p.ack ≤ 1073741824 := of_decide_eq_true hA
  rw [hR] at Hr
  have HR := Lib.hid hR; have HE := Lib.hid hE; have HS := Lib.hid hS; have HA := Lib.hid hA
  clear hR hE hS hA
  go_enter Tryd.func30, Tryd.ntmps30
  go_upto_region 2 with fail
  generalize (w.alloc (.cells (pktList p).toArray 36)).alloc (.cells (noteList p.note).toArray 34) = w2 at *
  have d0 : w2.cell? ⟨w.heap.size + 1, 0, none⟩ = some (iV p.note.kind) := Hbx.out.note 0 _ rfl
  have d1 : w2.cell? ⟨w.heap.size + 1, 1, none⟩ = some (iV p.note.vlan) := Hbx.out.note 1 _ rfl
  have d2 : w2.cell? ⟨w.heap.size + 1, 2, none⟩ = some (bV p.note.mac.a) := Hbx.out.note 2 _ rfl
  have d3 : w2.cell? ⟨w.heap.size + 1, 3, none⟩ = some (bV p.note.mac.b) := Hbx.out.note 3 _ rfl
  have d4 : w2.cell? ⟨w.heap.size + 1, 4, none⟩ = some (bV p.note.mac.c) := Hbx.out.note 4 _ rfl
  have d5 : w2.cell? ⟨w.heap.size + 1, 5, none⟩ = some (bV p.note.mac.d) := Hbx.out.note 5 _ rfl
  have d6 : w2.cell? ⟨w.heap.size + 1, 6, none⟩ = some (bV p.note.mac.e) := Hbx.out.note 6 _ rfl
  have d7 : w2.cell? ⟨w.heap.size + 1, 7, none⟩ = some (bV p.note.mac.f) := Hbx.out.note 7 _ rfl
  have d8 : w2.cell? ⟨w.heap.size + 1, 8, none⟩ = some (iV p.note.port) := Hbx.out.note 8 _ rfl
  have d9 : w2.cell? ⟨w.heap.size + 1, 9, none⟩ = some (iV p.note.state) := Hbx.out.note 9 _ rfl
  have d10 : w2.cell? ⟨w.heap.size + 1, 10, none⟩ = some (.slice p.note.ba p.note.bl p.note.bc) := Hbx.out.note 10 _ rfl
  go_wp2_with fail
  refine Hr.out.mono ?_
  rintro e w3 ⟨rfl, hB3⟩
  have hbx3 := Hbx.out.step (hB3.mono Hbx.out.lt)
  obtain ⟨c0, c1, c2⟩ := hbx3.cells
  have Hbx3 := Lib.hid hbx3
  clear d0 d1 d2 d3 d4 d5 d6 d7 d8 d9 d10 hbx3 hB3 Hbx
  have He := Lib.hid (HE.out ▸ numbered_any p.epoch w3)
  have Hs := Lib.hid (HS.out ▸ numbered_any p.seq w3)
  have Ha := Lib.hid (HA.out ▸ numbered_any p.ack w3)
  go_upto_region 4 with (first | (go_at_call_of 37 (iV p.epoch); refine He.out.mono ?_; rintro e w' ⟨rfl, rfl⟩) | (go_at_call_of 37 (iV p.seq); refine Hs.out.mono ?_; rintro e w' ⟨rfl, rfl⟩) | (go_at_call_of 37 (iV p.ack); refine Ha.out.mono ?_; rintro e w' ⟨rfl, rfl⟩))
  clear He Hs Ha
  go_cut [5] (fun s5 w' => EncMid w p s5 w')
  case first =>
    have d0 : w3.cell? ⟨w.heap.size + 1, 0, none⟩ = some (iV p.note.kind) := Hbx3.out.note 0 _ rfl
    have hk := kind_byte HR.out
    have hbd := Hbx3.out.drew
    have z3 := Hbx3.out.lt
    have hE3 := encS Hbx3.out
    go_region_held3 (fun w' => EncS w w' p) (first | (with_reducible first | assumption | (exact encS hbd) | (exact EncS.alloc (by assumption) _) | (exact EncS.drew (EncS.alloc hE3 _)) | (exact EncS.drew (EncS.alloc (EncS.alloc hE3 _) _))) | (exact EncS.set (by assumption) (by omega) _)) (first | (go_at_call_of 38 (iV p.epoch); refine (long_any p.epoch (w.heap.size + 2) (.slice none 0 0) [] _ (World.ownsRow_nil _ _ _ _) hE'.1 (by omega) (by simp) (EncS.lt (p := p) (by assumption))).mono ?_; rintro e w4 ⟨g1, N1, cap1, rfl, h1⟩; have hb4 : EncS w w4 p := EncS.grew (l := ([] : List Int)) (by assumption) (World.ownsRow_nil _ _ _ _) h1; have z4 := hb4.lt; have r1 := h1.row; (first | (have hn4 := Has.grew (o := .cells #[bI p.note.kind] 5 (0, 0)) (Has.drew (Has.new2 _ _ _ _ (sz_alloc _ _))) h1 (by simp [Value.ownBlock])) | (have hn4 := Has.grew (o := .cells #[bI p.note.kind] 5 (0, 0)) (Has.drew (Has.new _ _ _)) h1 (by simp [Value.ownBlock])) | (have hn4 := Has.grew (o := .cells #[bI p.note.kind] 5 (0, 0)) (Has.drew (Has.alloc (Has.new _ _ _) _)) h1 (by simp [Value.ownBlock])) | skip); (first | (have hc4 := Has.grew (o := .cells #[.slice none 0 0] 32 (0, 0)) (Has.drew (Has.new2 _ _ _ _ (sz_alloc _ _))) h1 (by simp [Value.ownBlock])) | (have hc4 := Has.grew (o := .cells #[.slice none 0 0] 32 (0, 0)) (Has.drew (Has.new _ _ _)) h1 (by simp [Value.ownBlock])) | (have hc4 := Has.grew (o := .cells #[.slice none 0 0] 32 (0, 0)) (Has.drew (Has.alloc (Has.new _ _ _) _)) h1 (by simp [Value.ownBlock])) | skip)) | (go_at_call_of 38 (iV p.seq); refine (long_any p.seq (w.heap.size + 2) _ (([] : List Int) ++ be4 p.epoch) _ (by first | exact r1 | exact r1.alloc _ | exact (r1.alloc _).alloc _) hS'.1 (by omega) (by simp [be4, be2]) (EncS.lt (p := p) (by assumption))).mono ?_; rintro e w5 ⟨g2, N2, cap2, rfl, h2⟩; have hb5 : EncS w w5 p := EncS.grew (l := ([] : List Int) ++ be4 p.epoch) (by assumption) (by first | exact r1 | exact r1.alloc _ | exact (r1.alloc _).alloc _) h2; have z5 := hb5.lt; have r2 := h2.row; (first | (have hn5 := Has.grew (o := .cells #[bI p.note.kind] 5 (0, 0)) (Has.new2 _ _ _ _ (sz_alloc _ _)) h2 (own_ne (by have q1 := loc_nil h1; try simp only [sz_alloc, sz_drew] at q1 ⊢; all_goals omega))) | (have hn5 := Has.grew (o := .cells #[bI p.note.kind] 5 (0, 0)) (Has.new _ _ _) h2 (own_ne (by have q1 := loc_nil h1; try simp only [sz_alloc, sz_drew] at q1 ⊢; all_goals omega))) | (have hn5 := Has.grew (o := .cells #[bI p.note.kind] 5 (0, 0)) (Has.alloc (Has.new2 _ _ _ _ (sz_alloc _ _)) _) h2 (own_ne (by have q1 := loc_nil h1; try simp only [sz_alloc, sz_drew] at q1 ⊢; all_goals omega))) | (have hn5 := Has.grew (o := .cells #[bI p.note.kind] 5 (0, 0)) (Has.alloc (Has.new _ _ _) _) h2 (own_ne (by have q1 := loc_nil h1; try simp only [sz_alloc, sz_drew] at q1 ⊢; all_goals omega))) | (have hn5 := Has.grew (o := .cells #[bI p.note.kind] 5 (0, 0)) hn4 h2 (own_ne (by have q1 := loc_nil h1; try simp only [sz_alloc, sz_drew] at q1 ⊢; all_goals omega))) | (have hn5 := Has.grew (o := .cells #[bI p.note.kind] 5 (0, 0)) (Has.alloc hn4 _) h2 (own_ne (by have q1 := loc_nil h1; try simp only [sz_alloc, sz_drew] at q1 ⊢; all_goals omega))) | skip); (first | (have hc5 := Has.grew (o := .cells #[.slice none 0 0] 32 (0, 0)) (Has.new2 _ _ _ _ (sz_alloc _ _)) h2 (own_ne (by have q1 := loc_nil h1; try simp only [sz_alloc, sz_drew] at q1 ⊢; all_goals omega))) | (have hc5 := Has.grew (o := .cells #[.slice none 0 0] 32 (0, 0)) (Has.new _ _ _) h2 (own_ne (by have q1 := loc_nil h1; try simp only [sz_alloc, sz_drew] at q1 ⊢; all_goals omega))) | (have hc5 := Has.grew (o := .cells #[.slice none 0 0] 32 (0, 0)) (Has.alloc (Has.new2 _ _ _ _ (sz_alloc _ _)) _) h2 (own_ne (by have q1 := loc_nil h1; try simp only [sz_alloc, sz_drew] at q1 ⊢; all_goals omega))) | (have hc5 := Has.grew (o := .cells #[.slice none 0 0] 32 (0, 0)) (Has.alloc (Has.new _ _ _) _) h2 (own_ne (by have q1 := loc_nil h1; try simp only [sz_alloc, sz_drew] at q1 ⊢; all_goals omega))) | (have hc5 := Has.grew (o := .cells #[.slice none 0 0] 32 (0, 0)) hc4 h2 (own_ne (by have q1 := loc_nil h1; try simp only [sz_alloc, sz_drew] at q1 ⊢; all_goals omega))) | (have hc5 := Has.grew (o := .cells #[.slice none 0 0] 32 (0, 0)) (Has.alloc hc4 _) h2 (own_ne (by have q1 := loc_nil h1; try simp only [sz_alloc, sz_drew] at q1 ⊢; all_goals omega))) | skip)) | (go_at_call_of 38 (iV p.ack); refine (long_any p.ack (w.heap.size + 2) _ (([] : List Int) ++ be4 p.epoch ++ be4 p.seq) _ (by first | exact r2 | exact r2.alloc _ | exact (r2.alloc _).alloc _) hA'.1 (by omega) (by simp [be4, be2]) (EncS.lt (p := p) (by assumption))).mono ?_; rintro e w6 ⟨g3, N3, cap3, rfl, h3⟩; have hb6 : EncS w w6 p := EncS.grew (l := ([] : List Int) ++ be4 p.epoch ++ be4 p.seq) (by assumption) (by first | exact r2 | exact r2.alloc _ | exact (r2.alloc _).alloc _) h3; have z6 := hb6.lt; have r3 : w6.ownsRow (w.heap.size + 2) 5 1 (.slice (some ⟨g3, 0, none⟩) N3 cap3) N3 ((([] : List Int) ++ be4 p.epoch ++ be4 p.seq ++ be4 p.ack).map bI) := own_len h3.row h3.len; have hN3 : N3 ≤ 100 := (by rw [h3.len]; simp [be4, be2]); (first | (have hn6 := Has.grew (o := .cells #[bI p.note.kind] 5 (0, 0)) (Has.new2 _ _ _ _ (sz_alloc _ _)) h3 (own_ne (by have q1 := loc_nil h1; have q2 := loc_some h2; try simp only [sz_alloc, sz_drew] at q1 q2 ⊢; all_goals omega))) | (have hn6 := Has.grew (o := .cells #[bI p.note.kind] 5 (0, 0)) (Has.new _ _ _) h3 (own_ne (by have q1 := loc_nil h1; have q2 := loc_some h2; try simp only [sz_alloc, sz_drew] at q1 q2 ⊢; all_goals omega))) | (have hn6 := Has.grew (o := .cells #[bI p.note.kind] 5 (0, 0)) (Has.alloc (Has.new2 _ _ _ _ (sz_alloc _ _)) _) h3 (own_ne (by have q1 := loc_nil h1; have q2 := loc_some h2; try simp only [sz_alloc, sz_drew] at q1 q2 ⊢; all_goals omega))) | (have hn6 := Has.grew (o := .cells #[bI p.note.kind] 5 (0, 0)) (Has.alloc (Has.new _ _ _) _) h3 (own_ne (by have q1 := loc_nil h1; have q2 := loc_some h2; try simp only [sz_alloc, sz_drew] at q1 q2 ⊢; all_goals omega))) | (have hn6 := Has.grew (o := .cells #[bI p.note.kind] 5 (0, 0)) hn5 h3 (own_ne (by have q1 := loc_nil h1; have q2 := loc_some h2; try simp only [sz_alloc, sz_drew] at q1 q2 ⊢; all_goals omega))) | (have hn6 := Has.grew (o := .cells #[bI p.note.kind] 5 (0, 0)) (Has.alloc hn5 _) h3 (own_ne (by have q1 := loc_nil h1; have q2 := loc_some h2; try simp only [sz_alloc, sz_drew] at q1 q2 ⊢; all_goals omega))) | skip); (first | (have hc6 := Has.grew (o := .cells #[.slice none 0 0] 32 (0, 0)) (Has.new2 _ _ _ _ (sz_alloc _ _)) h3 (own_ne (by have q1 := loc_nil h1; have q2 := loc_some h2; try simp only [sz_alloc, sz_drew] at q1 q2 ⊢; all_goals omega))) | (have hc6 := Has.grew (o := .cells #[.slice none 0 0] 32 (0, 0)) (Has.new _ _ _) h3 (own_ne (by have q1 := loc_nil h1; have q2 := loc_some h2; try simp only [sz_alloc, sz_drew] at q1 q2 ⊢; all_goals omega))) | (have hc6 := Has.grew (o := .cells #[.slice none 0 0] 32 (0, 0)) (Has.alloc (Has.new2 _ _ _ _ (sz_alloc _ _)) _) h3 (own_ne (by have q1 := loc_nil h1; have q2 := loc_some h2; try simp only [sz_alloc, sz_drew] at q1 q2 ⊢; all_goals omega))) | (have hc6 := Has.grew (o := .cells #[.slice none 0 0] 32 (0, 0)) (Has.alloc (Has.new _ _ _) _) h3 (own_ne (by have q1 := loc_nil h1; have q2 := loc_some h2; try simp only [sz_alloc, sz_drew] at q1 q2 ⊢; all_goals omega))) | (have hc6 := Has.grew (o := .cells #[.slice none 0 0] 32 (0, 0)) hc5 h3 (own_ne (by have q1 := loc_nil h1; have q2 := loc_some h2; try simp only [sz_alloc, sz_drew] at q1 q2 ⊢; all_goals omega))) | (have hc6 := Has.grew (o := .cells #[.slice none 0 0] 32 (0, 0)) (Has.alloc hc5 _) h3 (own_ne (by have q1 := loc_nil h1; have q2 := loc_some h2; try simp only [sz_alloc, sz_drew] at q1 q2 ⊢; all_goals omega))) | skip)) | (refine step_append_lies _ (by rfl) _ _ _ (by rfl) (w.heap.size + 2) 5 i0 (.int .u8 0) 1 1 Tryd.underlying32 hi hz0 hz1 hz2 rfl (by omega) (.slice (some ⟨g3, 0, none⟩) N3 cap3) N3 ((([] : List Int) ++ be4 p.epoch ++ be4 p.seq ++ be4 p.ack).map bI) (by rfl) (by first | exact r3 | exact r3.alloc _ | exact (r3.alloc _).alloc _) ⟨_, 0, none⟩ 1 1 ([p.note.kind].map bI) (by rfl) (by rfl) (Has.news hn6) (one_bytes _) (by omega) (by simp only [maxLen]; omega) (by omega) (EncS.lt (p := p) (by assumption)) _ rfl ?_; intro g4 cap4 w7 h5 h6 h7 h8; have hb7 : EncS w w7 p := EncS.app (by assumption) (by first | exact r3 | exact r3.alloc _ | exact (r3.alloc _).alloc _) h6; (first | (have hc7 := Has.app (o := .cells #[.slice none 0 0] 32 (0, 0)) hc6 h6 (own_ne (by have q1 := loc_nil h1; have q2 := loc_some h2; have q3 := loc_some h3; try simp only [sz_alloc, sz_drew] at q1 q2 q3 ⊢; all_goals omega))) | (have hc7 := Has.app (o := .cells #[.slice none 0 0] 32 (0, 0)) (Has.alloc hc6 _) h6 (own_ne (by have q1 := loc_nil h1; have q2 := loc_some h2; have q3 := loc_some h3; try simp only [sz_alloc, sz_drew] at q1 q2 q3 ⊢; all_goals omega))) | (have hc7 := Has.app (o := .cells #[.slice none 0 0] 32 (0, 0)) (Has.new2 _ _ _ _ (sz_alloc _ _)) h6 (own_ne (by have q1 := loc_nil h1; have q2 := loc_some h2; have q3 := loc_some h3; try simp only [sz_alloc, sz_drew] at q1 q2 q3 ⊢; all_goals omega))) | (have hc7 := Has.app (o := .cells #[.slice none 0 0] 32 (0, 0)) (Has.new _ _ _) h6 (own_ne (by have q1 := loc_nil h1; have q2 := loc_some h2; have q3 := loc_some h3; try simp only [sz_alloc, sz_drew] at q1 q2 q3 ⊢; all_goals omega))) | (have hc7 := Has.app (o := .cells #[.slice none 0 0] 32 (0, 0)) (Has.alloc (Has.new _ _ _) _) h6 (own_ne (by have q1 := loc_nil h1; have q2 := loc_some h2; have q3 := loc_some h3; try simp only [sz_alloc, sz_drew] at q1 q2 q3 ⊢; all_goals omega))) | skip); (first | (obtain ⟨hcc1, hcc2⟩ := hc7.cellz; try simp at hcc1; try simp at hcc2) | skip)) | (refine step_append_lies _ (by rfl) _ _ _ (by rfl) (w.heap.size + 2) 5 i0 (.int .u8 0) 1 1 Tryd.underlying32 hi hz0 hz1 hz2 rfl (by omega) (.slice (some ⟨g3, 0, none⟩) N3 cap3) N3 ((([] : List Int) ++ be4 p.epoch ++ be4 p.seq ++ be4 p.ack).map bI) (by rfl) (by first | exact r3 | exact r3.alloc _ | exact (r3.alloc _).alloc _) ⟨_, 0, none⟩ 1 1 ([p.note.kind].map bI) (by rfl) (by rfl) (Has.news (Has.alloc hn6 _)) (one_bytes _) (by omega) (by simp only [maxLen]; omega) (by omega) (EncS.lt (p := p) (by assumption)) _ rfl ?_; intro g4 cap4 w7 h5 h6 h7 h8; have hb7 : EncS w w7 p := EncS.app (by assumption) (by first | exact r3 | exact r3.alloc _ | exact (r3.alloc _).alloc _) h6; (first | (have hc7 := Has.app (o := .cells #[.slice none 0 0] 32 (0, 0)) hc6 h6 (own_ne (by have q1 := loc_nil h1; have q2 := loc_some h2; have q3 := loc_some h3; try simp only [sz_alloc, sz_drew] at q1 q2 q3 ⊢; all_goals omega))) | (have hc7 := Has.app (o := .cells #[.slice none 0 0] 32 (0, 0)) (Has.alloc hc6 _) h6 (own_ne (by have q1 := loc_nil h1; have q2 := loc_some h2; have q3 := loc_some h3; try simp only [sz_alloc, sz_drew] at q1 q2 q3 ⊢; all_goals omega))) | (have hc7 := Has.app (o := .cells #[.slice none 0 0] 32 (0, 0)) (Has.new2 _ _ _ _ (sz_alloc _ _)) h6 (own_ne (by have q1 := loc_nil h1; have q2 := loc_some h2; have q3 := loc_some h3; try simp only [sz_alloc, sz_drew] at q1 q2 q3 ⊢; all_goals omega))) | (have hc7 := Has.app (o := .cells #[.slice none 0 0] 32 (0, 0)) (Has.new _ _ _) h6 (own_ne (by have q1 := loc_nil h1; have q2 := loc_some h2; have q3 := loc_some h3; try simp only [sz_alloc, sz_drew] at q1 q2 q3 ⊢; all_goals omega))) | (have hc7 := Has.app (o := .cells #[.slice none 0 0] 32 (0, 0)) (Has.alloc (Has.new _ _ _) _) h6 (own_ne (by have q1 := loc_nil h1; have q2 := loc_some h2; have q3 := loc_some h3; try simp only [sz_alloc, sz_drew] at q1 q2 q3 ⊢; all_goals omega))) | skip); (first | (obtain ⟨hcc1, hcc2⟩ := hc7.cellz; try simp at hcc1; try simp at hcc2) | skip)) | (refine step_append_lies _ (by rfl) _ _ _ (by rfl) (w.heap.size + 2) 5 i0 (.int .u8 0) 1 1 Tryd.underlying32 hi hz0 hz1 hz2 rfl (by omega) (.slice (some ⟨g3, 0, none⟩) N3 cap3) N3 ((([] : List Int) ++ be4 p.epoch ++ be4 p.seq ++ be4 p.ack).map bI) (by rfl) (by first | exact r3 | exact r3.alloc _ | exact (r3.alloc _).alloc _) ⟨_, 0, none⟩ 1 1 ([p.note.kind].map bI) (by rfl) (by rfl) (Has.news (Has.new2 _ _ _ _ (sz_alloc _ _))) (one_bytes _) (by omega) (by simp only [maxLen]; omega) (by omega) (EncS.lt (p := p) (by assumption)) _ rfl ?_; intro g4 cap4 w7 h5 h6 h7 h8; have hb7 : EncS w w7 p := EncS.app (by assumption) (by first | exact r3 | exact r3.alloc _ | exact (r3.alloc _).alloc _) h6; (first | (have hc7 := Has.app (o := .cells #[.slice none 0 0] 32 (0, 0)) hc6 h6 (own_ne (by have q1 := loc_nil h1; have q2 := loc_some h2; have q3 := loc_some h3; try simp only [sz_alloc, sz_drew] at q1 q2 q3 ⊢; all_goals omega))) | (have hc7 := Has.app (o := .cells #[.slice none 0 0] 32 (0, 0)) (Has.alloc hc6 _) h6 (own_ne (by have q1 := loc_nil h1; have q2 := loc_some h2; have q3 := loc_some h3; try simp only [sz_alloc, sz_drew] at q1 q2 q3 ⊢; all_goals omega))) | (have hc7 := Has.app (o := .cells #[.slice none 0 0] 32 (0, 0)) (Has.new2 _ _ _ _ (sz_alloc _ _)) h6 (own_ne (by have q1 := loc_nil h1; have q2 := loc_some h2; have q3 := loc_some h3; try simp only [sz_alloc, sz_drew] at q1 q2 q3 ⊢; all_goals omega))) | (have hc7 := Has.app (o := .cells #[.slice none 0 0] 32 (0, 0)) (Has.new _ _ _) h6 (own_ne (by have q1 := loc_nil h1; have q2 := loc_some h2; have q3 := loc_some h3; try simp only [sz_alloc, sz_drew] at q1 q2 q3 ⊢; all_goals omega))) | (have hc7 := Has.app (o := .cells #[.slice none 0 0] 32 (0, 0)) (Has.alloc (Has.new _ _ _) _) h6 (own_ne (by have q1 := loc_nil h1; have q2 := loc_some h2; have q3 := loc_some h3; try simp only [sz_alloc, sz_drew] at q1 q2 q3 ⊢; all_goals omega))) | skip); (first | (obtain ⟨hcc1, hcc2⟩ := hc7.cellz; try simp at hcc1; try simp at hcc2) | skip)) | (refine step_append_lies _ (by rfl) _ _ _ (by rfl) (w.heap.size + 2) 5 i0 (.int .u8 0) 1 1 Tryd.underlying32 hi hz0 hz1 hz2 rfl (by omega) (.slice (some ⟨g3, 0, none⟩) N3 cap3) N3 ((([] : List Int) ++ be4 p.epoch ++ be4 p.seq ++ be4 p.ack).map bI) (by rfl) (by first | exact r3 | exact r3.alloc _ | exact (r3.alloc _).alloc _) ⟨_, 0, none⟩ 1 1 ([p.note.kind].map bI) (by rfl) (by rfl) (Has.news (Has.new _ _ _)) (one_bytes _) (by omega) (by simp only [maxLen]; omega) (by omega) (EncS.lt (p := p) (by assumption)) _ rfl ?_; intro g4 cap4 w7 h5 h6 h7 h8; have hb7 : EncS w w7 p := EncS.app (by assumption) (by first | exact r3 | exact r3.alloc _ | exact (r3.alloc _).alloc _) h6; (first | (have hc7 := Has.app (o := .cells #[.slice none 0 0] 32 (0, 0)) hc6 h6 (own_ne (by have q1 := loc_nil h1; have q2 := loc_some h2; have q3 := loc_some h3; try simp only [sz_alloc, sz_drew] at q1 q2 q3 ⊢; all_goals omega))) | (have hc7 := Has.app (o := .cells #[.slice none 0 0] 32 (0, 0)) (Has.alloc hc6 _) h6 (own_ne (by have q1 := loc_nil h1; have q2 := loc_some h2; have q3 := loc_some h3; try simp only [sz_alloc, sz_drew] at q1 q2 q3 ⊢; all_goals omega))) | (have hc7 := Has.app (o := .cells #[.slice none 0 0] 32 (0, 0)) (Has.new2 _ _ _ _ (sz_alloc _ _)) h6 (own_ne (by have q1 := loc_nil h1; have q2 := loc_some h2; have q3 := loc_some h3; try simp only [sz_alloc, sz_drew] at q1 q2 q3 ⊢; all_goals omega))) | (have hc7 := Has.app (o := .cells #[.slice none 0 0] 32 (0, 0)) (Has.new _ _ _) h6 (own_ne (by have q1 := loc_nil h1; have q2 := loc_some h2; have q3 := loc_some h3; try simp only [sz_alloc, sz_drew] at q1 q2 q3 ⊢; all_goals omega))) | (have hc7 := Has.app (o := .cells #[.slice none 0 0] 32 (0, 0)) (Has.alloc (Has.new _ _ _) _) h6 (own_ne (by have q1 := loc_nil h1; have q2 := loc_some h2; have q3 := loc_some h3; try simp only [sz_alloc, sz_drew] at q1 q2 q3 ⊢; all_goals omega))) | skip); (first | (obtain ⟨hcc1, hcc2⟩ := hc7.cellz; try simp at hcc1; try simp at hcc2) | skip)) | (refine step_append_lies _ (by rfl) _ _ _ (by rfl) (w.heap.size + 2) 5 i0 (.int .u8 0) 1 1 Tryd.underlying32 hi hz0 hz1 hz2 rfl (by omega) (.slice (some ⟨g3, 0, none⟩) N3 cap3) N3 ((([] : List Int) ++ be4 p.epoch ++ be4 p.seq ++ be4 p.ack).map bI) (by rfl) (by first | exact r3 | exact r3.alloc _ | exact (r3.alloc _).alloc _) ⟨_, 0, none⟩ 1 1 ([p.note.kind].map bI) (by rfl) (by rfl) (Has.news (Has.alloc (Has.new _ _ _) _)) (one_bytes _) (by omega) (by simp only [maxLen]; omega) (by omega) (EncS.lt (p := p) (by assumption)) _ rfl ?_; intro g4 cap4 w7 h5 h6 h7 h8; have hb7 : EncS w w7 p := EncS.app (by assumption) (by first | exact r3 | exact r3.alloc _ | exact (r3.alloc _).alloc _) h6; (first | (have hc7 := Has.app (o := .cells #[.slice none 0 0] 32 (0, 0)) hc6 h6 (own_ne (by have q1 := loc_nil h1; have q2 := loc_some h2; have q3 := loc_some h3; try simp only [sz_alloc, sz_drew] at q1 q2 q3 ⊢; all_goals omega))) | (have hc7 := Has.app (o := .cells #[.slice none 0 0] 32 (0, 0)) (Has.alloc hc6 _) h6 (own_ne (by have q1 := loc_nil h1; have q2 := loc_some h2; have q3 := loc_some h3; try simp only [sz_alloc, sz_drew] at q1 q2 q3 ⊢; all_goals omega))) | (have hc7 := Has.app (o := .cells #[.slice none 0 0] 32 (0, 0)) (Has.new2 _ _ _ _ (sz_alloc _ _)) h6 (own_ne (by have q1 := loc_nil h1; have q2 := loc_some h2; have q3 := loc_some h3; try simp only [sz_alloc, sz_drew] at q1 q2 q3 ⊢; all_goals omega))) | (have hc7 := Has.app (o := .cells #[.slice none 0 0] 32 (0, 0)) (Has.new _ _ _) h6 (own_ne (by have q1 := loc_nil h1; have q2 := loc_some h2; have q3 := loc_some h3; try simp only [sz_alloc, sz_drew] at q1 q2 q3 ⊢; all_goals omega))) | (have hc7 := Has.app (o := .cells #[.slice none 0 0] 32 (0, 0)) (Has.alloc (Has.new _ _ _) _) h6 (own_ne (by have q1 := loc_nil h1; have q2 := loc_some h2; have q3 := loc_some h3; try simp only [sz_alloc, sz_drew] at q1 q2 q3 ⊢; all_goals omega))) | skip); (first | (obtain ⟨hcc1, hcc2⟩ := hc7.cellz; try simp at hcc1; try simp at hcc2) | skip)))
    all_goals
      go_wp2_with fail
      go_meet
      first
        | exact encMid1 (w6 := w6) (g3 := 0) (N3 := 0) (cap3 := 0) (c := 0) hb7 h5 (head_len h3.len)
        | exact encMid2 hb7 h5 (head_len h3.len) hc7 (by first | omega | (simp only [sz_alloc, sz_drew]; omega))
  case rest =>
    obtain ⟨c, v, rfl, hbx, hbuf⟩ := hcut
    clear c0 c1 c2 Hbx3 hi hz0 hz1 hz2
    obtain ⟨hk, hv, hp, hst, hbl⟩ := right_bounds HR.out
    have hmf : ∀ (fn : Fn) (first cp : Array Value) (w : World), (Instr.makeFunc fn first cp).run Tryd.prog w = .ok (.func fn first cp) w := fun _ _ _ _ => rfl
    have hlen : (headL p).length = 13 := by simp [headL, be4, be2]
    have Hlaid := Lib.hid (fun W (h : Below w.heap.size w W) => Hl.out.below h Hl.out.1)
    have H1 := Lib.hid (put_any 40 (w.heap.size + 1) c (w.heap.size + 2) p.note.kind 1 v _ _ wc hk (.inl rfl) (Hlaid.out _ hbx.bel) (hbx.note 0 _ rfl) hbuf calls_put.1
      (fun _ => putVlan_any (w.heap.size + 1) _ p.note.vlan v (headL p) wc (hbx.note 1 _ rfl) hbuf.row hv.1 (by omega) (by omega) hbx.lt))
    have Hbx := Lib.hid hbx
    clear hbx hbuf
    go_wp2_with fail
    refine H1.out.mono ?_
    rintro e w1 ⟨v1, rfl, hbuf1, hB1⟩
    rw [field_app] at hbuf1
    have hbx1 := Hbx.out.step hB1
    obtain ⟨l1, hl1⟩ : ∃ l, l = headL p ++ fieldL p.note.kind 1 (be2 p.note.vlan) := ⟨_, rfl⟩
    have hn1 : l1.length ≤ 15 := by rw [hl1, List.length_append]; have := field_len p.note.kind 1 (be2 p.note.vlan); simp [be2] at this ⊢; omega
    replace hbuf1 : Buf w1 (w.heap.size + 2) c v1 l1 := by rw [hl1]; exact hbuf1
    have Hl1 := Lib.hid hl1
    have H2 := Lib.hid (put_any 42 (w.heap.size + 1) c (w.heap.size + 2) p.note.kind 2 v1 l1 _ w1 hk (.inr (.inl rfl)) (Hlaid.out _ hbx1.bel) (hbx1.note 0 _ rfl) hbuf1 calls_put.2.1
      (fun _ => putMac_any (w.heap.size + 1) _ p.note.mac v1 l1 w1 (mac_at hbx1) hbuf1.row (by omega) hbx1.lt))
    have Hbx1 := Lib.hid hbx1
    clear hbx1 hbuf1 hB1 hl1
    go_wp2_with fail
    refine H2.out.mono ?_
    rintro e w2' ⟨v2, rfl, hbuf2, hB2⟩
    rw [field_app] at hbuf2
    have hbx2 := Hbx1.out.step hB2
    obtain ⟨l2, hl2⟩ : ∃ l, l = l1 ++ fieldL p.note.kind 2 (macInts p.note.mac) := ⟨_, rfl⟩
    have hn2 : l2.length ≤ 21 := by rw [hl2, List.length_append]; have := field_len p.note.kind 2 (macInts p.note.mac); simp at this; omega
    replace hbuf2 : Buf w2' (w.heap.size + 2) c v2 l2 := by rw [hl2]; exact hbuf2
    have Hl2 := Lib.hid hl2
    have H3 := Lib.hid (put_any 43 (w.heap.size + 1) c (w.heap.size + 2) p.note.kind 4 v2 l2 _ w2' hk (.inr (.inr (.inl rfl))) (Hlaid.out _ hbx2.bel) (hbx2.note 0 _ rfl) hbuf2 calls_put.2.2.1
      (fun _ => putPort_any (w.heap.size + 1) _ p.note.port v2 l2 w2' (hbx2.note 8 _ rfl) hbuf2.row hp.1 (by omega) (by omega) hbx2.lt))
    have Hbx2 := Lib.hid hbx2
    clear hbx2 hbuf2 hB2 hl2
    go_wp2_with fail
    refine H3.out.mono ?_
    rintro e w3' ⟨v3, rfl, hbuf3, hB3⟩
    rw [field_app] at hbuf3
    have hbx3 := Hbx2.out.step hB3
    obtain ⟨l3, hl3⟩ : ∃ l, l = l2 ++ fieldL p.note.kind 4 (be2 p.note.port) := ⟨_, rfl⟩
    have hn3 : l3.length ≤ 23 := by rw [hl3, List.length_append]; have := field_len p.note.kind 4 (be2 p.note.port); simp [be2] at this ⊢; omega
    replace hbuf3 : Buf w3' (w.heap.size + 2) c v3 l3 := by rw [hl3]; exact hbuf3
    have Hl3 := Lib.hid hl3
    have H4 := Lib.hid (put_any 44 (w.heap.size + 1) c (w.heap.size + 2) p.note.kind 8 v3 l3 _ w3' hk (.inr (.inr (.inr (.inl rfl)))) (Hlaid.out _ hbx3.bel) (hbx3.note 0 _ rfl) hbuf3 calls_put.2.2.2.1
      (fun _ => putState_any (w.heap.size + 1) _ p.note.state v3 l3 w3' (hbx3.note 9 _ rfl) hbuf3.row hst.1 (by omega) (by omega) hbx3.lt))
    have Hbx3 := Lib.hid hbx3
    clear hbx3 hbuf3 hB3 hl3
    go_wp2_with fail
    refine H4.out.mono ?_
    rintro e w4' ⟨v4, rfl, hbuf4, hB4⟩
    rw [field_app] at hbuf4
    have hbx4 := Hbx3.out.step hB4
    obtain ⟨l4, hl4⟩ : ∃ l, l = l3 ++ fieldL p.note.kind 8 [p.note.state] := ⟨_, rfl⟩
    have hn4 : l4.length ≤ 24 := by rw [hl4, List.length_append]; have := field_len p.note.kind 8 [p.note.state]; simp at this; omega
    replace hbuf4 : Buf w4' (w.heap.size + 2) c v4 l4 := by rw [hl4]; exact hbuf4
    have Hl4 := Lib.hid hl4
    have H5 := Lib.hid (put_any 45 (w.heap.size + 1) c (w.heap.size + 2) p.note.kind 16 v4 l4 (l4 ++ (be2 p.note.bl ++ bs)) w4' hk (.inr (.inr (.inr (.inr rfl)))) (Hlaid.out _ hbx4.bel) (hbx4.note 0 _ rfl) hbuf4 calls_put.2.2.2.2
      (fun _ => by rw [← List.append_assoc]; exact putBody_any (w.heap.size + 1) _ p.note.ba p.note.bl p.note.bc bs v4 l4 w4' (hbx4.note 10 _ rfl) (by omega) (src_far Hsrc.out hbx4.bel) Hfar.out hbuf4.row (by omega) (by omega) hbx4.lt))
    have Hbx4 := Lib.hid hbx4
    clear hbx4 hbuf4 hB4 hl4
    go_wp2_with fail
    refine H5.out.mono ?_
    rintro e w5' ⟨v5, rfl, hbuf5, hB5⟩
    rw [field_app] at hbuf5
    have hbx5 := Hbx4.out.step hB5
    obtain ⟨hc5, _⟩ := hbuf5.cell
    have Hend := Lib.hid (Hpost.out w5' v5 (by
      have hr := own_mono hbuf5.row (show w.heap.size ≤ w.heap.size + 2 by omega)
      rw [Hl4.out, Hl3.out, Hl2.out, Hl1.out] at hr
      exact hr) hbx5.bel)
    clear hbx5 hbuf5 hB5 Hpost
    go_wp2_with fail
    go_ret2
    exact Hend.out
theorem encode_any (p : Pkt) (bs : List Int) (w : World) (hl : HasLaid w) (hsrc : Src w p.note.ba p.note.bl bs) (hfar : ∀ x, p.note.ba = some x → x.block < w.heap.size) : Calls Tryd.prog 30 #[p.val] w (EncPost w p bs) := by
  cases h : encB p
  · exact encode_no p bs w hl h
  · exact encode_yes p bs w hl hsrc hfar h
end Go.Proofs.YtpglhnbekpafeaaDoor
