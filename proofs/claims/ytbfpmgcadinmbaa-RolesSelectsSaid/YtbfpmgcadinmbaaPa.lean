/-
  Plain law: a bridge that hears nothing that counts is the root, and its ports that are up are designated.
-/
import Derived.Test.YtbfpmgcadinmbaaPlain
namespace Go.Proofs.Ytbfpmgcadinmbaa
set_option linter.unusedVariables false
set_option linter.unusedSimpArgs false
open Go

theorem rolesLoop_get (me : Id) (best : Vec) (root : Int) (l : List Heard) : ∀ (k i : Nat) (h : Heard), i < k → k ≤ l.length → l[i]? = some h → (rolesLoop me best root l k)[i]? = some (roleOf me best root i h) := by
  intro k
  induction k with
  | zero => intro i h hi; omega
  | succ k ih =>
    intro i h hi hk hh
    rw [rolesLoop_succ me best root l k l[k] (List.getElem?_eq_getElem hk)]
    have hl := rolesLoop_length me best root l k (by omega)
    by_cases hik : i < k
    · rw [List.getElem?_append_left (by omega)]; exact ih i h hik (by omega) hh
    · have : i = k := by omega
      subst this
      rw [List.getElem?_append_right (by omega), hl, Nat.sub_self]
      rw [List.getElem?_eq_getElem hk] at hh
      injection hh with hh
      simp [hh]

theorem selRoles_length (me : Id) (l : List Heard) : (selRoles me l).length = l.length := rolesLoop_length _ _ _ _ _ (Nat.le_refl _)
theorem selRoles_get (me : Id) (l : List Heard) (i : Nat) (h : Heard) (hh : l[i]? = some h) : (selRoles me l)[i]? = some (roleOf me (selBest me l) (selRoot me l) i h) :=
  rolesLoop_get _ _ _ _ _ _ _ (List.getElem?_eq_some_iff.1 hh).1 (Nat.le_refl _) hh

/-- what a port says that hears nothing that counts. -/
def deaf (h : Heard) : Heard := { h with has := h.has && !h.up }
def deafs (l : List Heard) : List Heard := l.map deaf

theorem deafs_get (l : List Heard) (i : Nat) (h : Heard) (hh : l[i]? = some h) : (deafs l)[i]? = some (deaf h) := by
  unfold deafs; rw [List.getElem?_map, hh]; rfl
theorem deafs_length (l : List Heard) : (deafs l).length = l.length := by simp [deafs]

theorem fairN_deafs (l : List Heard) : fairN (deafs l) = fairN l := by
  unfold fairN
  rw [deafs_length]
  have h1 : (deafs l).any badPort = l.any badPort := by
    unfold deafs; rw [List.any_map]; rfl
  have h2 : (deafs l).map Heard.port = l.map Heard.port := by
    unfold deafs; rw [List.map_map]; rfl
  rw [h1, h2]

theorem selLoop_deafs (me : Id) (l : List Heard) : ∀ k, k ≤ l.length → selLoop me (deafs l) k = (ownWay me, -1) := by
  intro k
  induction k with
  | zero => intro _; rfl
  | succ k ih =>
    intro hk
    rw [selLoop_succ me (deafs l) k (deaf l[k]) (deafs_get l k _ (List.getElem?_eq_getElem hk)), ih (by omega)]
    unfold selStep
    rw [if_neg]
    intro h
    simp [deaf] at h
    have := h.1.1
    simp_all

theorem selBest_deafs (me : Id) (l : List Heard) : selBest me (deafs l) = ownWay me := by
  unfold selBest; rw [selLoop_deafs me l _ (by rw [deafs_length]; exact Nat.le_refl _)]
theorem selRoot_deafs (me : Id) (l : List Heard) : selRoot me (deafs l) = -1 := by
  unfold selRoot; rw [selLoop_deafs me l _ (by rw [deafs_length]; exact Nat.le_refl _)]

theorem roles_deafs (me : Id) (l : List Heard) (i : Nat) (h : Heard) (hh : l[i]? = some h) : (selRoles me (deafs l))[i]? = some (if h.up then 2 else 0) := by
  rw [selRoles_get me (deafs l) i (deaf h) (deafs_get l i h hh), selRoot_deafs]
  congr 1
  unfold roleOf
  cases hu : h.up
  · simp [deaf, hu]
  · have : (deaf h).up = true := hu
    rw [if_neg (by rw [this]; decide), if_neg (by omega), if_pos (by simp [deaf, hu])]
    rfl
theorem fairN_cases (l : List Heard) : fairN l = 0 ∨ fairN l = 1 ∨ fairN l = 5 := by
  unfold fairN
  split
  · exact Or.inr (Or.inl rfl)
  · split
    · exact Or.inr (Or.inl rfl)
    · split
      · exact Or.inl rfl
      · exact Or.inr (Or.inr rfl)
end Go.Proofs.Ytbfpmgcadinmbaa
