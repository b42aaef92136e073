/-
  The document's own compares: gemelref01.Number and Compare, gemelref05.Compare, gemelref16.number and Compare.
-/
import Derived.Test.YtbfpmgcadinmbaaWd
import Derived.Deep.DeepCutAuto
namespace Go.Proofs.Ytbfpmgcadinmbaa
set_option linter.unusedVariables false
set_option linter.unusedSimpArgs false
open Go Go.RowKit
attribute [local go_sem ↓] exec_loadVec exec_storeVec exec_loadHeard exec_storeHeard
attribute [local go_sem] ldRow_ptr ldFin_some cellsAt_succ cellsAt_zero allSome_cons allSome_nil stRow_ptr stFin_true allOne_cons allOne_nil there_succ there_zero frozens_succ frozens_zero one_int one_bool putCells_alloc_at putCells_alloc_old over_all

/-- the number of the first bytes. -/
def numM (m : Mac) : Nat → Int
  | 0 => 0
  | 1 => m.a.toNat
  | 2 => m.a.toNat * 256 + m.b.toNat
  | 3 => (m.a.toNat * 256 + m.b.toNat) * 256 + m.c.toNat
  | 4 => ((m.a.toNat * 256 + m.b.toNat) * 256 + m.c.toNat) * 256 + m.d.toNat
  | 5 => (((m.a.toNat * 256 + m.b.toNat) * 256 + m.c.toNat) * 256 + m.d.toNat) * 256 + m.e.toNat
  | _ => ((((m.a.toNat * 256 + m.b.toNat) * 256 + m.c.toNat) * 256 + m.d.toNat) * 256 + m.e.toNat) * 256 + m.f.toNat

theorem numM_range (m : Mac) (k : Nat) : 0 ≤ numM m k ∧ numM m k ≤ 281474976710655 := by
  have h0 := m.a.toNat_lt
  have h1 := m.b.toNat_lt
  have h2 := m.c.toNat_lt
  have h3 := m.d.toNat_lt
  have h4 := m.e.toNat_lt
  have h5 := m.f.toNat_lt
  unfold numM
  split <;> omega

def byteM (m : Mac) (k : Nat) : UInt8 := [m.a, m.b, m.c, m.d, m.e, m.f].getD k 0
theorem numM_succ (m : Mac) (k : Nat) (hk : k < 6) : numM m (k + 1) = numM m k * 256 + (byteM m k).toNat := by
  rcases k with _ | _ | _ | _ | _ | _ | k
  · simp [numM, byteM]
  · rfl
  · rfl
  · rfl
  · rfl
  · rfl
  · omega

theorem at6_byteM {w : World} {b : Nat} {m : Mac} {T : TypeId} {fr : Nat × Nat} (h : w.heap[b]? = some (.cells #[bV m.a, bV m.b, bV m.c, bV m.d, bV m.e, bV m.f] T fr)) (k : Nat) (hk : k < 6) : w.cell? ⟨b, k, none⟩ = some (bV (byteM m k)) := by
  unfold World.cell?
  rw [h]
  rcases k with _ | _ | _ | _ | _ | _ | k
  · rfl
  · rfl
  · rfl
  · rfl
  · rfl
  · rfl
  · omega

set_option maxHeartbeats 400000 in
theorem num01_any (m : Mac) (w : World) : Calls Try.prog 31 #[m.val] w fun e w' => e = .returned (.int .u64 (numM m 6)) ∧ Below w.heap.size w w' := by
  go_enter Try.func31, Try.ntmps31
  go_wp2
  go_loop [3, 4] (fun n i => ∃ k : Nat, k ≤ 6 ∧ i = iV k ∧ n = .int .u64 (numM m k)) (fun _ i => 6 - (intOf i).toNat)
  case atStart => exact ⟨0, by omega, rfl, rfl⟩
  case round =>
    obtain ⟨k, hk, rfl, rfl⟩ := hrel
    by_cases hlt : k < 6
    · have hc := at6_byteM (w := w.alloc (.cells #[bV m.a, bV m.b, bV m.c, bV m.d, bV m.e, bV m.f] 23)) (m := m) (heap_alloc_new _ _) k hlt
      have hr := numM_range m k
      have hr' := numM_range m (k + 1)
      have hs := numM_succ m k hlt
      have hw1 : IntKind.u64.wrap (numM m k * 256) = numM m k * 256 := IntWalk.u64_in _ (by omega)
      have hw2 : IntKind.u64.wrap (numM m k * 256 + (byteM m k).toNat) = numM m (k + 1) := by rw [← hs]; exact IntWalk.u64_in _ (by omega)
      have hb := (byteM m k).toNat_lt
      have hw3 : IntKind.u64.wrap ((byteM m k).toNat : Int) = ((byteM m k).toNat : Int) := IntWalk.u64_in _ (by omega)
      clear hs hr hr' hb
      go_wp2
      go_round
      case rel => exact ⟨k + 1, by omega, by go_num, rfl⟩
      case measure => simp [intOf]; omega
    · have e : k = 6 := by omega
      subst e
      go_wp2
      go_ret
      exact ⟨rfl, (Below.refl _ _).alloc (Nat.le_refl _) _⟩

theorem cmp_num (m n : Mac) : cmpI (numM m 6) (numM n 6) = cmpMac m n := by
  obtain ⟨a, b, c, d, e, f⟩ := m
  obtain ⟨a', b', c', d', e', f'⟩ := n
  have h0 := a.toNat_lt
  have h1 := b.toNat_lt
  have h2 := c.toNat_lt
  have h3 := d.toNat_lt
  have h4 := e.toNat_lt
  have h5 := f.toNat_lt
  have g0 := a'.toNat_lt
  have g1 := b'.toNat_lt
  have g2 := c'.toNat_lt
  have g3 := d'.toNat_lt
  have g4 := e'.toNat_lt
  have g5 := f'.toNat_lt
  unfold cmpMac
  simp only [numM, orI]
  generalize a.toNat = a at *
  generalize b.toNat = b at *
  generalize c.toNat = c at *
  generalize d.toNat = d at *
  generalize e.toNat = e at *
  generalize f.toNat = f at *
  generalize a'.toNat = a' at *
  generalize b'.toNat = b' at *
  generalize c'.toNat = c' at *
  generalize d'.toNat = d' at *
  generalize e'.toNat = e' at *
  generalize f'.toNat = f' at *
  have key : ∀ (x y : Int) (u v : Int), 0 ≤ u → u < 256 → 0 ≤ v → v < 256 → cmpI (x * 256 + u) (y * 256 + v) = if cmpI x y = 0 then cmpI u v else cmpI x y := by
    intro x y u v h1 h2 h3 h4
    unfold cmpI
    rcases Int.lt_trichotomy x y with h | h | h
    · rw [if_pos (show x * 256 + u < y * 256 + v by omega), if_pos h]; rfl
    · subst h
      rw [if_neg (Int.lt_irrefl x), if_neg (Int.lt_irrefl x), if_pos rfl]
      by_cases q : u < v
      · rw [if_pos (by omega), if_pos q]
      · rw [if_neg (by omega), if_neg q]
        by_cases q' : v < u
        · rw [if_pos (by omega), if_pos q']
        · rw [if_neg (by omega), if_neg q']
    · rw [if_neg (show ¬ x * 256 + u < y * 256 + v by omega), if_pos (show y * 256 + v < x * 256 + u by omega), if_neg (show ¬ x < y by omega), if_pos h]; rfl
  rw [key _ _ _ _ (by omega) (by omega) (by omega) (by omega), key _ _ _ _ (by omega) (by omega) (by omega) (by omega), key _ _ _ _ (by omega) (by omega) (by omega) (by omega), key _ _ _ _ (by omega) (by omega) (by omega) (by omega), key _ _ _ _ (by omega) (by omega) (by omega) (by omega)]
  by_cases q0 : cmpI (a : Int) a' = 0 <;> simp only [q0, if_true, if_false] <;>
  by_cases q1 : cmpI (b : Int) b' = 0 <;> simp only [q1, if_true, if_false] <;>
  by_cases q2 : cmpI (c : Int) c' = 0 <;> simp only [q2, if_true, if_false] <;>
  by_cases q3 : cmpI (d : Int) d' = 0 <;> simp only [q3, if_true, if_false] <;>
  by_cases q4 : cmpI (e : Int) e' = 0 <;> simp only [q4, if_true, if_false] <;>
  by_cases q5 : cmpI (f : Int) f' = 0 <;> simp only [q5, if_true, if_false]


theorem cmpI_lt {x y : Int} (h : x < y) : cmpI x y = -1 := by unfold cmpI; rw [if_pos h]
theorem cmpI_gt {x y : Int} (h : y < x) : cmpI x y = 1 := by unfold cmpI; rw [if_neg (by omega), if_pos h]

theorem cmp01_any (m n : Mac) (w : World) : Calls Try.prog 26 #[m.val, n.val] w fun e w' => e = .returned (iV (cmpMac m n)) ∧ Below w.heap.size w w' := by
  rw [← cmp_num]
  have hb0 : Below w.heap.size w ((w.alloc (.cells #[bV m.a, bV m.b, bV m.c, bV m.d, bV m.e, bV m.f] 23)).alloc (.cells #[bV n.a, bV n.b, bV n.c, bV n.d, bV n.e, bV n.f] 23)) := ((Below.refl _ _).alloc (Nat.le_refl _) _).alloc (by simp) _
  have Hk := Lib.hid (Kept.refl (k := w.heap.size + 2) (W := (w.alloc (.cells #[bV m.a, bV m.b, bV m.c, bV m.d, bV m.e, bV m.f] 23)).alloc (.cells #[bV n.a, bV n.b, bV n.c, bV n.d, bV n.e, bV n.f] 23)) (by simp))
  obtain ⟨a, b, c, d, e, f⟩ := m
  obtain ⟨a', b', c', d', e', f'⟩ := n
  have hm := fun W => num01_any ⟨a, b, c, d, e, f⟩ W
  have hn := fun W => num01_any ⟨a', b', c', d', e', f'⟩ W
  generalize numM ⟨a, b, c, d, e, f⟩ 6 = x at *
  generalize numM ⟨a', b', c', d', e', f'⟩ 6 = y at *
  have Hm := Lib.hid hm; clear hm
  have Hn := Lib.hid hn; clear hn
  rcases Int.lt_trichotomy x y with h | h | h
  · rw [cmpI_lt h]
    go_enter Try.func26, Try.ntmps26
    go_wp2_with (go_at_call 31; (first | refine (Hm.out _).mono ?_; clear Hm | refine (Hn.out _).mono ?_; clear Hn); rintro e w' ⟨rfl, hb⟩; replace Hk := Lib.hid (Kept.step Hk.out hb); have hcs := Hk.out.1)
    go_ret
    exact ⟨rfl, Hk.out.fin hb0 (by omega)⟩
  · subst h; rw [cmpI_self]
    go_enter Try.func26, Try.ntmps26
    go_wp2_with (go_at_call 31; (first | refine (Hm.out _).mono ?_; clear Hm | refine (Hn.out _).mono ?_; clear Hn); rintro e w' ⟨rfl, hb⟩; replace Hk := Lib.hid (Kept.step Hk.out hb); have hcs := Hk.out.1)
    go_ret
    exact ⟨rfl, Hk.out.fin hb0 (by omega)⟩
  · rw [cmpI_gt h]
    go_enter Try.func26, Try.ntmps26
    go_wp2_with (go_at_call 31; (first | refine (Hm.out _).mono ?_; clear Hm | refine (Hn.out _).mono ?_; clear Hn); rintro e w' ⟨rfl, hb⟩; replace Hk := Lib.hid (Kept.step Hk.out hb); have hcs := Hk.out.1)
    go_ret
    exact ⟨rfl, Hk.out.fin hb0 (by omega)⟩

theorem cmpId_eq (a b : Id) : cmpId a b = if cmpI a.prio b.prio = 0 then cmpMac a.mac b.mac else cmpI a.prio b.prio := by
  unfold cmpId; simp only [orI]; split
  · split
    · rename_i h; exact h.symm
    · rfl
  · rfl

set_option maxHeartbeats 400000 in
theorem cmp05_any (a b : Id) (w : World) : Calls Try.prog 17 #[a.val, b.val] w fun e w' => e = .returned (iV (cmpId a b)) ∧ Below w.heap.size w w' := by
  have hb0 : Below w.heap.size w ((w.alloc (.cells #[iV a.prio, bV a.mac.a, bV a.mac.b, bV a.mac.c, bV a.mac.d, bV a.mac.e, bV a.mac.f] 25)).alloc (.cells #[iV b.prio, bV b.mac.a, bV b.mac.b, bV b.mac.c, bV b.mac.d, bV b.mac.e, bV b.mac.f] 25)) := ((Below.refl _ _).alloc (Nat.le_refl _) _).alloc (by simp) _
  rcases Int.lt_trichotomy a.prio b.prio with h | h | h
  · have hv : cmpId a b = -1 := by rw [cmpId_eq, cmpI_lt h]; rfl
    rw [hv]
    go_enter Try.func17, Try.ntmps17
    go_wp2
    go_ret
    exact ⟨rfl, hb0⟩
  · have hv : cmpId a b = cmpMac a.mac b.mac := by rw [cmpId_eq, h, cmpI_self]; rfl
    rw [hv]
    obtain ⟨p, ma⟩ := a
    obtain ⟨q, mb⟩ := b
    obtain rfl : p = q := h
    clear hv
    go_enter Try.func17, Try.ntmps17
    go_wp2_with (go_at_call 26; refine (cmp01_any ma mb _).mono ?_; rintro e w' ⟨rfl, hb⟩)
    go_ret
    exact ⟨rfl, hb0.trans (hb.mono (by simp; omega))⟩
  · have hv : cmpId a b = 1 := by rw [cmpId_eq, cmpI_gt h]; rfl
    rw [hv]
    go_enter Try.func17, Try.ntmps17
    go_wp2
    go_ret
    exact ⟨rfl, hb0⟩

theorem number16_any (x y : Int) (w : World) : Calls Try.prog 25 #[iV x, iV y] w fun e w' => e = .returned (iV (cmpI x y)) ∧ w = w' := by
  rcases Int.lt_trichotomy x y with h | h | h
  · rw [cmpI_lt h]
    go_enter Try.func25, Try.ntmps25
    go_wp2
    go_ret
    exact ⟨rfl, rfl⟩
  · subst h; rw [cmpI_self]
    go_enter Try.func25, Try.ntmps25
    go_wp2
    go_ret
    exact ⟨rfl, rfl⟩
  · rw [cmpI_gt h]
    go_enter Try.func25, Try.ntmps25
    go_wp2
    go_ret
    exact ⟨rfl, rfl⟩

set_option maxHeartbeats 8000000 in
theorem cmp16_any (a b : Vec) (w : World) : Calls Try.prog 16 #[a.val, b.val] w fun e w' => e = .returned (iV (cmpVec a b)) ∧ Below w.heap.size w w' := by
  have hb0 : Below w.heap.size w ((w.alloc (.cells (vecCells a) 29)).alloc (.cells (vecCells b) 29)) := ((Below.refl _ _).alloc (Nat.le_refl _) _).alloc (by simp) _
  have Hk := Lib.hid (Kept.refl (k := w.heap.size + 2) (W := (w.alloc (.cells (vecCells a) 29)).alloc (.cells (vecCells b) 29)) (by simp))
  have H0 := Lib.hid (fun W => cmp05_any a.root b.root W)
  have H1 := Lib.hid (fun W => number16_any a.cost b.cost W)
  have H2 := Lib.hid (fun W => cmp05_any a.bridge b.bridge W)
  have H3 := Lib.hid (fun W => number16_any a.port b.port W)
  have H4 := Lib.hid (fun W => number16_any a.own b.own W)
  unfold cmpVec
  generalize cmpId a.root b.root = x0 at *
  generalize cmpI a.cost b.cost = x1 at *
  generalize cmpId a.bridge b.bridge = x2 at *
  generalize cmpI a.port b.port = x3 at *
  generalize cmpI a.own b.own = x4 at *
  by_cases h0 : x0 = 0
  rotate_left
  · have e0 : (x0 == 0) = false := by simpa using h0
    have hv : orI [x0, x1, x2, x3, x4] = x0 := by simp [orI, h0]
    rw [hv]; clear hv h0
    go_enter Try.func16, Try.ntmps16
    go_wp2_with (first | (go_at_call 17; (first | refine (H0.out _).mono ?_; clear H0 | refine (H2.out _).mono ?_; clear H2); rintro e w' ⟨rfl, hb⟩; replace Hk := Lib.hid (Kept.step Hk.out hb); have hcs := Hk.out.1) | (go_at_call 25; (first | refine (H1.out _).mono ?_; clear H1 | refine (H3.out _).mono ?_; clear H3 | refine (H4.out _).mono ?_; clear H4); rintro e w' ⟨rfl, rfl⟩))
    go_ret
    exact ⟨rfl, Hk.out.fin hb0 (by omega)⟩
  subst h0
  by_cases h1 : x1 = 0
  rotate_left
  · have e1 : (x1 == 0) = false := by simpa using h1
    have hv : orI [0, x1, x2, x3, x4] = x1 := by simp [orI, h1]
    rw [hv]; clear hv h1
    go_enter Try.func16, Try.ntmps16
    go_wp2_with (first | (go_at_call 17; (first | refine (H0.out _).mono ?_; clear H0 | refine (H2.out _).mono ?_; clear H2); rintro e w' ⟨rfl, hb⟩; replace Hk := Lib.hid (Kept.step Hk.out hb); have hcs := Hk.out.1) | (go_at_call 25; (first | refine (H1.out _).mono ?_; clear H1 | refine (H3.out _).mono ?_; clear H3 | refine (H4.out _).mono ?_; clear H4); rintro e w' ⟨rfl, rfl⟩))
    go_ret
    exact ⟨rfl, Hk.out.fin hb0 (by omega)⟩
  subst h1
  by_cases h2 : x2 = 0
  rotate_left
  · have e2 : (x2 == 0) = false := by simpa using h2
    have hv : orI [0, 0, x2, x3, x4] = x2 := by simp [orI, h2]
    rw [hv]; clear hv h2
    go_enter Try.func16, Try.ntmps16
    go_wp2_with (first | (go_at_call 17; (first | refine (H0.out _).mono ?_; clear H0 | refine (H2.out _).mono ?_; clear H2); rintro e w' ⟨rfl, hb⟩; replace Hk := Lib.hid (Kept.step Hk.out hb); have hcs := Hk.out.1) | (go_at_call 25; (first | refine (H1.out _).mono ?_; clear H1 | refine (H3.out _).mono ?_; clear H3 | refine (H4.out _).mono ?_; clear H4); rintro e w' ⟨rfl, rfl⟩))
    go_ret
    exact ⟨rfl, Hk.out.fin hb0 (by omega)⟩
  subst h2
  by_cases h3 : x3 = 0
  rotate_left
  · have e3 : (x3 == 0) = false := by simpa using h3
    have hv : orI [0, 0, 0, x3, x4] = x3 := by simp [orI, h3]
    rw [hv]; clear hv h3
    go_enter Try.func16, Try.ntmps16
    go_wp2_with (first | (go_at_call 17; (first | refine (H0.out _).mono ?_; clear H0 | refine (H2.out _).mono ?_; clear H2); rintro e w' ⟨rfl, hb⟩; replace Hk := Lib.hid (Kept.step Hk.out hb); have hcs := Hk.out.1) | (go_at_call 25; (first | refine (H1.out _).mono ?_; clear H1 | refine (H3.out _).mono ?_; clear H3 | refine (H4.out _).mono ?_; clear H4); rintro e w' ⟨rfl, rfl⟩))
    go_ret
    exact ⟨rfl, Hk.out.fin hb0 (by omega)⟩
  subst h3
  have hv : orI [0, 0, 0, 0, x4] = x4 := by simp only [orI, if_true]; split <;> simp_all
  rw [hv]; clear hv
  go_enter Try.func16, Try.ntmps16
  go_wp2_with (first | (go_at_call 17; (first | refine (H0.out _).mono ?_; clear H0 | refine (H2.out _).mono ?_; clear H2); rintro e w' ⟨rfl, hb⟩; replace Hk := Lib.hid (Kept.step Hk.out hb); have hcs := Hk.out.1) | (go_at_call 25; (first | refine (H1.out _).mono ?_; clear H1 | refine (H3.out _).mono ?_; clear H3 | refine (H4.out _).mono ?_; clear H4); rintro e w' ⟨rfl, rfl⟩))
  go_ret
  exact ⟨rfl, Hk.out.fin hb0 (by omega)⟩
end Go.Proofs.Ytbfpmgcadinmbaa
