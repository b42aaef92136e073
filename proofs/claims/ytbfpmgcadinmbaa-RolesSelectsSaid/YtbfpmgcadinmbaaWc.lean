/-
  mac.Compare, bpdu.Compare, vector.Compare: what they tell; they make memory of their own and change none.
-/
import Derived.Test.YtbfpmgcadinmbaaWb
namespace Go.Proofs.Ytbfpmgcadinmbaa
set_option linter.unusedVariables false
set_option linter.unusedSimpArgs false
open Go Go.RowKit

theorem macCmp_any (m n : Mac) (w : World) : Calls Try.prog 32 #[m.val, n.val] w fun e w' => e = .returned (iV (cmpMac m n)) ∧ Below w.heap.size w w' := by
  go_enter Try.func32, Try.ntmps32
  go_wp2_with fail
  go_quiet ((go_at_call 34; refine Calls.quiet_of_same (bytesCmp_at _ _ _ _ _ _ m n _ ?_ ?_) <;> simp [At6, World.cell?_drewN]))
  go_wp2
  go_ret
  exact ⟨rfl, belowDrewN (((Below.refl _ _).alloc (Nat.le_refl _) _).alloc (by simp) _) _⟩

set_option maxHeartbeats 400000 in
theorem idCmp_any (a b : Id) (w : World) : Calls Try.prog 29 #[a.val, b.val] w fun e w' => e = .returned (iV (cmpId a b)) ∧ Below w.heap.size w w' := by
  go_enter Try.func29, Try.ntmps29
  go_wp2_with fail
  go_region_held3 (fun w' => Kept (w.heap.size + 2) ((w.alloc (.cells #[iV a.prio, bV a.mac.a, bV a.mac.b, bV a.mac.c, bV a.mac.d, bV a.mac.e, bV a.mac.f] 25)).alloc (.cells #[iV b.prio, bV b.mac.a, bV b.mac.b, bV b.mac.c, bV b.mac.d, bV b.mac.e, bV b.mac.f] 25)) w') (first | assumption | exact Kept.drew (Kept.refl (by simp)) | exact Kept.step (by assumption) (by assumption) | exact Kept.alloc (by assumption) _) (first | (go_at_call 30; refine (cmpInt_any _ _ _).mono ?_; rintro e w' ⟨rfl, rfl⟩) | (go_at_call 32; refine (macCmp_any a.mac b.mac _).mono ?_; rintro e w' ⟨rfl, hb⟩) | (go_at_call 28; refine (cmpOr_new [cmpI a.prio b.prio, cmpMac a.mac b.mac] 2 rfl (by omega) _).mono ?_; rintro e w' ⟨rfl, rfl⟩))
  go_wp2
  go_ret
  exact ⟨rfl, Kept.fin ‹Kept _ _ _› (((Below.refl _ _).alloc (Nat.le_refl _) _).alloc (by simp) _) (by omega)⟩

abbrev vecCells (v : Vec) : Array Value := #[iV v.root.prio, bV v.root.mac.a, bV v.root.mac.b, bV v.root.mac.c, bV v.root.mac.d, bV v.root.mac.e, bV v.root.mac.f, iV v.cost,
    iV v.bridge.prio, bV v.bridge.mac.a, bV v.bridge.mac.b, bV v.bridge.mac.c, bV v.bridge.mac.d, bV v.bridge.mac.e, bV v.bridge.mac.f, iV v.port, iV v.own]

set_option maxHeartbeats 1000000 in
theorem vecCmp_any (a b : Vec) (w : World) : Calls Try.prog 22 #[a.val, b.val] w fun e w' => e = .returned (iV (cmpVec a b)) ∧ Below w.heap.size w w' := by
  go_enter Try.func22, Try.ntmps22
  go_wp2_with fail
  go_region_held3 (fun w' => Kept (w.heap.size + 2) ((w.alloc (.cells (vecCells a) 29)).alloc (.cells (vecCells b) 29)) w') (first | assumption | exact Kept.drew (Kept.refl (by simp)) | exact Kept.step (by assumption) (by assumption) | exact Kept.alloc (by assumption) _) (first | (go_at_call 30; refine (cmpInt_any _ _ _).mono ?_; rintro e w' ⟨rfl, rfl⟩) | (go_at_call 29; refine (idCmp_any ⟨_, ⟨_, _, _, _, _, _⟩⟩ ⟨_, ⟨_, _, _, _, _, _⟩⟩ _).mono ?_; rintro e w' ⟨rfl, hb⟩) | (go_at_call 28; refine (cmpOr_new [cmpId a.root b.root, cmpI a.cost b.cost, cmpId a.bridge b.bridge, cmpI a.port b.port, cmpI a.own b.own] 5 rfl (by omega) _).mono ?_; rintro e w' ⟨rfl, rfl⟩))
  go_wp2
  go_ret
  exact ⟨rfl, Kept.fin ‹Kept _ _ _› (((Below.refl _ _).alloc (Nat.le_refl _) _).alloc (by simp) _) (by omega)⟩

end Go.Proofs.Ytbfpmgcadinmbaa
