/-
  No cell of these rows narrows 'for every input' (looked for: loops, veiled, ifaces, maps, wideKeys, modest, calm, conditions, laid).
  DERIVED. THE GIVEN ROWS OF THIS SEAT. 7 by the template 'for every input the law returns true; each argument reads behind the call as it read before'; 0 by the template 'total and deterministic' (their statements: YtbfpmgcadinmbaaTotals.lean).
  GIVEN WITH THE SEED: the statements are not yours to turn. If you find one false, say at which input.
  Laid BY PROGRAM, IN A SANDBOX (cutbox-rows.mjs): the forced cells as the released guide's own fill.sh prints them over the translation 7365577bf34e075a… (all of the seat's roots in one cut). By AI agents, Wed Nov 11 2026. No macro, syntax, notation, axiom, sorry.
-/
import Derived.Test.YtbfpmgcadinmbaaChecked
import GoSem.Claim
import GoSem.ClaimJoined
import GoSem.ClaimMapViews
import Derived.JoinedTies
import Derived.KernelRfl
namespace Go.Proofs.Ytbfpmgcadinmbaa
/- THE CELL 'sum', in the pinned program and in every row, IS THE sha256 OF THE DUMP (.gsa) THAT YtbfpmgcadinmbaaProg.lean LOADS. Nothing in Lean hashes anything: it is a label: what it is worth is what the hold of that sum in a sandbox is worth. -/
noncomputable def Try.pinned : Pinned := { name := "ytbfpmgcadinmbaa", sum := "7365577bf34e075a4392af920a55e68c4bd9e61dd1cf9ed99261ea87c3175738", checked := Try.checked }
namespace Rows
def none {H : Type} : Left H := { results := [], args := [] }

/-- 'gemellaw17.RolesSelects': WHATEVER THE INPUT: true; the input reads as it did. -/
def rolesSelectsSpec : ChangeSpec := { name := "rolesSelects", fn := fun _ => fun
  | [d1, d2] => { results := [.lit (.bool true)], args := [d1, d2] }
  | _ => none }
def rolesSelectsRow : OpenClaim := { program := "ytbfpmgcadinmbaa", sum := "7365577bf34e075a4392af920a55e68c4bd9e61dd1cf9ed99261ea87c3175738", func := "gemel/gemellaw17.RolesSelects", spec := "rolesSelects", inPlace := ["internal/bytealg.Compare"], unfollowed := true, recurses := true, apart := false }
def RolesSelectsSaid : Prop := rolesSelectsRow.holds Try.pinned (OpenSpec.ofChange rolesSelectsSpec)

/-- ITS FALSE NEIGHBOUR: 'it returns false'. Refute it at one input. -/
def rolesSelectsWrong : ChangeSpec := { name := "rolesSelects", fn := fun _ => fun
  | [d1, d2] => { results := [.lit (.bool false)], args := [d1, d2] }
  | _ => none }
def RolesSelectsWrongFalsely : Prop := rolesSelectsRow.holds Try.pinned (OpenSpec.ofChange rolesSelectsWrong)

/-- 'gemellaw17.RolesOffers': WHATEVER THE INPUT: true; the input reads as it did. -/
def rolesOffersSpec : ChangeSpec := { name := "rolesOffers", fn := fun _ => fun
  | [d1, d2, d3] => { results := [.lit (.bool true)], args := [d1, d2, d3] }
  | _ => none }
def rolesOffersRow : OpenClaim := { program := "ytbfpmgcadinmbaa", sum := "7365577bf34e075a4392af920a55e68c4bd9e61dd1cf9ed99261ea87c3175738", func := "gemel/gemellaw17.RolesOffers", spec := "rolesOffers", inPlace := ["internal/bytealg.Compare"], unfollowed := true, recurses := true, apart := false }
def RolesOffersSaid : Prop := rolesOffersRow.holds Try.pinned (OpenSpec.ofChange rolesOffersSpec)

/-- ITS FALSE NEIGHBOUR: 'it returns false'. Refute it at one input. -/
def rolesOffersWrong : ChangeSpec := { name := "rolesOffers", fn := fun _ => fun
  | [d1, d2, d3] => { results := [.lit (.bool false)], args := [d1, d2, d3] }
  | _ => none }
def RolesOffersWrongFalsely : Prop := rolesOffersRow.holds Try.pinned (OpenSpec.ofChange rolesOffersWrong)

/-- 'gemellaw17.RolesRoot': WHATEVER THE INPUT: true; the input reads as it did. -/
def rolesRootSpec : ChangeSpec := { name := "rolesRoot", fn := fun _ => fun
  | [d1, d2] => { results := [.lit (.bool true)], args := [d1, d2] }
  | _ => none }
def rolesRootRow : OpenClaim := { program := "ytbfpmgcadinmbaa", sum := "7365577bf34e075a4392af920a55e68c4bd9e61dd1cf9ed99261ea87c3175738", func := "gemel/gemellaw17.RolesRoot", spec := "rolesRoot", inPlace := ["internal/bytealg.Compare"], unfollowed := true, recurses := true, apart := false }
def RolesRootSaid : Prop := rolesRootRow.holds Try.pinned (OpenSpec.ofChange rolesRootSpec)

/-- ITS FALSE NEIGHBOUR: 'it returns false'. Refute it at one input. -/
def rolesRootWrong : ChangeSpec := { name := "rolesRoot", fn := fun _ => fun
  | [d1, d2] => { results := [.lit (.bool false)], args := [d1, d2] }
  | _ => none }
def RolesRootWrongFalsely : Prop := rolesRootRow.holds Try.pinned (OpenSpec.ofChange rolesRootWrong)

/-- 'gemellaw17.RolesLinks': WHATEVER THE INPUT: true; the input reads as it did. -/
def rolesLinksSpec : ChangeSpec := { name := "rolesLinks", fn := fun _ => fun
  | [d1, d2, d3] => { results := [.lit (.bool true)], args := [d1, d2, d3] }
  | _ => none }
def rolesLinksRow : OpenClaim := { program := "ytbfpmgcadinmbaa", sum := "7365577bf34e075a4392af920a55e68c4bd9e61dd1cf9ed99261ea87c3175738", func := "gemel/gemellaw17.RolesLinks", spec := "rolesLinks", inPlace := ["internal/bytealg.Compare"], unfollowed := true, recurses := true, apart := false }
def RolesLinksSaid : Prop := rolesLinksRow.holds Try.pinned (OpenSpec.ofChange rolesLinksSpec)

/-- ITS FALSE NEIGHBOUR: 'it returns false'. Refute it at one input. -/
def rolesLinksWrong : ChangeSpec := { name := "rolesLinks", fn := fun _ => fun
  | [d1, d2, d3] => { results := [.lit (.bool false)], args := [d1, d2, d3] }
  | _ => none }
def RolesLinksWrongFalsely : Prop := rolesLinksRow.holds Try.pinned (OpenSpec.ofChange rolesLinksWrong)

/-- 'gemellaw17.RolesAlone': WHATEVER THE INPUT: true; the input reads as it did. -/
def rolesAloneSpec : ChangeSpec := { name := "rolesAlone", fn := fun _ => fun
  | [d1, d2] => { results := [.lit (.bool true)], args := [d1, d2] }
  | _ => none }
def rolesAloneRow : OpenClaim := { program := "ytbfpmgcadinmbaa", sum := "7365577bf34e075a4392af920a55e68c4bd9e61dd1cf9ed99261ea87c3175738", func := "gemel/gemellaw17.RolesAlone", spec := "rolesAlone", inPlace := ["internal/bytealg.Compare"], unfollowed := true, recurses := true, apart := false }
def RolesAloneSaid : Prop := rolesAloneRow.holds Try.pinned (OpenSpec.ofChange rolesAloneSpec)

/-- ITS FALSE NEIGHBOUR: 'it returns false'. Refute it at one input. -/
def rolesAloneWrong : ChangeSpec := { name := "rolesAlone", fn := fun _ => fun
  | [d1, d2] => { results := [.lit (.bool false)], args := [d1, d2] }
  | _ => none }
def RolesAloneWrongFalsely : Prop := rolesAloneRow.holds Try.pinned (OpenSpec.ofChange rolesAloneWrong)

/-- 'gemellaw17.RolesTurned': WHATEVER THE INPUT: true; the input reads as it did. -/
def rolesTurnedSpec : ChangeSpec := { name := "rolesTurned", fn := fun _ => fun
  | [d1, d2] => { results := [.lit (.bool true)], args := [d1, d2] }
  | _ => none }
def rolesTurnedRow : OpenClaim := { program := "ytbfpmgcadinmbaa", sum := "7365577bf34e075a4392af920a55e68c4bd9e61dd1cf9ed99261ea87c3175738", func := "gemel/gemellaw17.RolesTurned", spec := "rolesTurned", inPlace := ["internal/bytealg.Compare"], unfollowed := true, recurses := true, apart := false }
def RolesTurnedSaid : Prop := rolesTurnedRow.holds Try.pinned (OpenSpec.ofChange rolesTurnedSpec)

/-- ITS FALSE NEIGHBOUR: 'it returns false'. Refute it at one input. -/
def rolesTurnedWrong : ChangeSpec := { name := "rolesTurned", fn := fun _ => fun
  | [d1, d2] => { results := [.lit (.bool false)], args := [d1, d2] }
  | _ => none }
def RolesTurnedWrongFalsely : Prop := rolesTurnedRow.holds Try.pinned (OpenSpec.ofChange rolesTurnedWrong)

/-- 'gemellaw17.RolesBackup': WHATEVER THE INPUT: true; the input reads as it did. -/
def rolesBackupSpec : ChangeSpec := { name := "rolesBackup", fn := fun _ => fun
  | [d1, d2, d3] => { results := [.lit (.bool true)], args := [d1, d2, d3] }
  | _ => none }
def rolesBackupRow : OpenClaim := { program := "ytbfpmgcadinmbaa", sum := "7365577bf34e075a4392af920a55e68c4bd9e61dd1cf9ed99261ea87c3175738", func := "gemel/gemellaw17.RolesBackup", spec := "rolesBackup", inPlace := ["internal/bytealg.Compare"], unfollowed := true, recurses := true, apart := false }
def RolesBackupSaid : Prop := rolesBackupRow.holds Try.pinned (OpenSpec.ofChange rolesBackupSpec)

/-- ITS FALSE NEIGHBOUR: 'it returns false'. Refute it at one input. -/
def rolesBackupWrong : ChangeSpec := { name := "rolesBackup", fn := fun _ => fun
  | [d1, d2, d3] => { results := [.lit (.bool false)], args := [d1, d2, d3] }
  | _ => none }
def RolesBackupWrongFalsely : Prop := rolesBackupRow.holds Try.pinned (OpenSpec.ofChange rolesBackupWrong)

/- THE SECOND FORM. 'bulk': how many values and letters a reading holds, each counted each time it is reached (what is shared counts as often as it is met; a slice's spare places count too). A statement '..UptoSaid' is the law's where the arguments, and the package variables that the reading takes, are together of bulk at most 1048576: NARROWER than '..Said'. Prove '..Said' where nothing that the law and all that it calls make is longer than what came in: it says more and counts as full. Else prove '..UptoSaid'. A law counts once. -/
mutual
def uptoBulk {H : Type} : DataW H → Nat
  | .lit (.string bytes) => bytes.length + 1
  | .lit _ => 1
  | .nil => 1
  | .ptr d => uptoBulk d + 1
  | .slice elems spare => uptoBulkAll elems + uptoBulkAll spare + 1
  | .agg parts => uptoBulkAll parts + 1
  | .iface _ d => uptoBulk d + 1
  | .map entries => uptoBulkEntries entries + 1
  | .held _ => 1
def uptoBulkAll {H : Type} : List (DataW H) → Nat
  | [] => 0
  | d :: r => uptoBulk d + uptoBulkAll r
def uptoBulkEntries {H : Type} : List (Lit × DataW H) → Nat
  | [] => 0
  | x :: r => uptoBulkEntry x + uptoBulkEntries r
def uptoBulkEntry {H : Type} : Lit × DataW H → Nat
  | (.string bytes, d) => bytes.length + uptoBulk d + 1
  | (_, d) => uptoBulk d + 1
 end
def uptoSmall : (H : Type) → List (DataW H) → Bool := fun _ ds => decide (uptoBulkAll ds ≤ 1048576)
def OpenSpec.upto (s : _root_.Go.ChangeSpec) : _root_.Go.OpenSpec := { _root_.Go.OpenSpec.ofChange s with cond := some uptoSmall }

/-- 'gemellaw17.RolesSelects', WHERE WHAT IT READS IS OF BULK AT MOST 1048576: true; the input reads as it did. -/
def rolesSelectsUptoRow : OpenClaim := { program := "ytbfpmgcadinmbaa", sum := "7365577bf34e075a4392af920a55e68c4bd9e61dd1cf9ed99261ea87c3175738", func := "gemel/gemellaw17.RolesSelects", spec := "rolesSelects", inPlace := ["internal/bytealg.Compare"], unfollowed := true, recurses := true, apart := false, narrowed := true }
def RolesSelectsUptoSaid : Prop := rolesSelectsUptoRow.holds Try.pinned (OpenSpec.upto rolesSelectsSpec)

/-- 'gemellaw17.RolesOffers', WHERE WHAT IT READS IS OF BULK AT MOST 1048576: true; the input reads as it did. -/
def rolesOffersUptoRow : OpenClaim := { program := "ytbfpmgcadinmbaa", sum := "7365577bf34e075a4392af920a55e68c4bd9e61dd1cf9ed99261ea87c3175738", func := "gemel/gemellaw17.RolesOffers", spec := "rolesOffers", inPlace := ["internal/bytealg.Compare"], unfollowed := true, recurses := true, apart := false, narrowed := true }
def RolesOffersUptoSaid : Prop := rolesOffersUptoRow.holds Try.pinned (OpenSpec.upto rolesOffersSpec)

/-- 'gemellaw17.RolesRoot', WHERE WHAT IT READS IS OF BULK AT MOST 1048576: true; the input reads as it did. -/
def rolesRootUptoRow : OpenClaim := { program := "ytbfpmgcadinmbaa", sum := "7365577bf34e075a4392af920a55e68c4bd9e61dd1cf9ed99261ea87c3175738", func := "gemel/gemellaw17.RolesRoot", spec := "rolesRoot", inPlace := ["internal/bytealg.Compare"], unfollowed := true, recurses := true, apart := false, narrowed := true }
def RolesRootUptoSaid : Prop := rolesRootUptoRow.holds Try.pinned (OpenSpec.upto rolesRootSpec)

/-- 'gemellaw17.RolesLinks', WHERE WHAT IT READS IS OF BULK AT MOST 1048576: true; the input reads as it did. -/
def rolesLinksUptoRow : OpenClaim := { program := "ytbfpmgcadinmbaa", sum := "7365577bf34e075a4392af920a55e68c4bd9e61dd1cf9ed99261ea87c3175738", func := "gemel/gemellaw17.RolesLinks", spec := "rolesLinks", inPlace := ["internal/bytealg.Compare"], unfollowed := true, recurses := true, apart := false, narrowed := true }
def RolesLinksUptoSaid : Prop := rolesLinksUptoRow.holds Try.pinned (OpenSpec.upto rolesLinksSpec)

/-- 'gemellaw17.RolesAlone', WHERE WHAT IT READS IS OF BULK AT MOST 1048576: true; the input reads as it did. -/
def rolesAloneUptoRow : OpenClaim := { program := "ytbfpmgcadinmbaa", sum := "7365577bf34e075a4392af920a55e68c4bd9e61dd1cf9ed99261ea87c3175738", func := "gemel/gemellaw17.RolesAlone", spec := "rolesAlone", inPlace := ["internal/bytealg.Compare"], unfollowed := true, recurses := true, apart := false, narrowed := true }
def RolesAloneUptoSaid : Prop := rolesAloneUptoRow.holds Try.pinned (OpenSpec.upto rolesAloneSpec)

/-- 'gemellaw17.RolesTurned', WHERE WHAT IT READS IS OF BULK AT MOST 1048576: true; the input reads as it did. -/
def rolesTurnedUptoRow : OpenClaim := { program := "ytbfpmgcadinmbaa", sum := "7365577bf34e075a4392af920a55e68c4bd9e61dd1cf9ed99261ea87c3175738", func := "gemel/gemellaw17.RolesTurned", spec := "rolesTurned", inPlace := ["internal/bytealg.Compare"], unfollowed := true, recurses := true, apart := false, narrowed := true }
def RolesTurnedUptoSaid : Prop := rolesTurnedUptoRow.holds Try.pinned (OpenSpec.upto rolesTurnedSpec)

/-- 'gemellaw17.RolesBackup', WHERE WHAT IT READS IS OF BULK AT MOST 1048576: true; the input reads as it did. -/
def rolesBackupUptoRow : OpenClaim := { program := "ytbfpmgcadinmbaa", sum := "7365577bf34e075a4392af920a55e68c4bd9e61dd1cf9ed99261ea87c3175738", func := "gemel/gemellaw17.RolesBackup", spec := "rolesBackup", inPlace := ["internal/bytealg.Compare"], unfollowed := true, recurses := true, apart := false, narrowed := true }
def RolesBackupUptoSaid : Prop := rolesBackupUptoRow.holds Try.pinned (OpenSpec.upto rolesBackupSpec)

end Rows
end Go.Proofs.Ytbfpmgcadinmbaa
