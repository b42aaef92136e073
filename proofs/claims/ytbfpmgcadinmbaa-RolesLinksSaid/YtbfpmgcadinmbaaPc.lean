/-
  Plain law: a bridge has at most one root port, and none just if its own way is the best.
-/
import Derived.Test.YtbfpmgcadinmbaaPb
namespace Go.Proofs.Ytbfpmgcadinmbaa
set_option linter.unusedVariables false
set_option linter.unusedSimpArgs false
open Go

/-- what a law on root ports asks. -/
structure RootFacts (me : Id) (l : List Heard) (roles : List Int) (best : Vec) (root : Int) : Prop where
  len : roles.length = l.length
  one : ∀ (i : Nat) (r : Int), roles[i]? = some r → (r = 1 ↔ (i : Int) = root)
  at_ : ∀ (i : Nat) (h : Heard), l[i]? = some h → (i : Int) = root → h.up = true ∧ h.has = true ∧ h.port = best.own ∧ h.v.root = best.root ∧ h.v.bridge = best.bridge
  rng : root = -1 ∨ (0 ≤ root ∧ root < l.length)
  own : best = ownWay me ↔ root = -1
  le : cmpId best.root me ≤ 0

theorem root_facts (me : Id) (l : List Heard) : RootFacts me l (selRoles me l) (selBest me l) (selRoot me l) := by
  have hb := best_all me l
  have key : ∀ (i : Nat) (h : Heard), l[i]? = some h → (i : Int) = selRoot me l → cand me h = true ∧ selBest me l = way h := by
    intro i h hh hr
    rcases hb.is with ⟨h1, h2⟩ | ⟨j, y, hj, hy, hc, h1, h2⟩
    · omega
    · have : i = j := by omega
      subst this
      rw [hh] at hy; injection hy with hy; subst hy
      exact ⟨hc, h2⟩
  have up : ∀ h, cand me h = true → h.up = true ∧ h.has = true := by
    intro h hc; unfold cand at hc; simp at hc; exact hc.1
  refine ⟨selRoles_length me l, fun i r hr => ?_, fun i h hh hr => ?_, ?_, ?_, ?_⟩
  · have hi : i < l.length := by have := (List.getElem?_eq_some_iff.1 hr).1; rwa [selRoles_length] at this
    have hh : l[i]? = some l[i] := List.getElem?_eq_getElem hi
    rw [selRoles_get me l i l[i] hh] at hr
    injection hr with hr
    subst hr
    unfold roleOf
    constructor
    · intro h
      split at h
      · cases h
      · split at h
        · assumption
        · split at h
          · cases h
          · split at h
            · cases h
            · split at h <;> cases h
    · intro h
      have := key i l[i] hh h
      rw [if_neg (by rw [(up _ this.1).1]; decide), if_pos h]
  · obtain ⟨hc, e⟩ := key i h hh hr
    obtain ⟨h1, h2⟩ := up h hc
    refine ⟨h1, h2, ?_, ?_, ?_⟩
    · rw [e]; rfl
    · rw [e]; exact (addVec_root _ _).symm
    · rw [e]; exact (addVec_bridge _ _).symm
  · rcases hb.is with ⟨h1, _⟩ | ⟨j, y, hj, hy, hc, h1, h2⟩
    · exact Or.inl h1
    · exact Or.inr ⟨by omega, by omega⟩
  · rcases hb.is with ⟨h1, h2⟩ | ⟨j, y, hj, hy, hc, h1, h2⟩
    · exact ⟨fun _ => h1, fun _ => h2⟩
    · constructor
      · intro e; exact absurd (h2 ▸ e) (way_ne_own me y hc)
      · intro e; omega
  · have h := hb.own
    unfold cmpVec at h
    rw [orI_cons] at h
    split at h
    · rename_i h0
      have : cmpId (selBest me l).root (ownWay me).root = cmpId (selBest me l).root me := rfl
      omega
    · exact h
end Go.Proofs.Ytbfpmgcadinmbaa
