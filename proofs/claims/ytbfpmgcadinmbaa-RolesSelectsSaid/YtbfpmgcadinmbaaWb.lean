/-
  mac.Compare: the compare of two addresses, by the model's own compare of bytes.
-/
import Derived.Test.YtbfpmgcadinmbaaWa
import Derived.Lib.Bytealg
namespace Go.Proofs.Ytbfpmgcadinmbaa
set_option linter.unusedVariables false
set_option linter.unusedSimpArgs false
open Go Go.RowKit

theorem ult_iff (x y : UInt8) : x < y ↔ (x.toNat : Int) < (y.toNat : Int) := by rw [UInt8.lt_iff_toNat_lt]; omega

theorem cmpI_u8 (x y : UInt8) (h : x ≠ y) : cmpI (x.toNat : Int) (y.toNat : Int) = if x < y then -1 else 1 := by
  unfold cmpI
  by_cases hx : x < y
  · rw [if_pos ((ult_iff x y).1 hx), if_pos hx]
  · have : ¬ (x.toNat : Int) < (y.toNat : Int) := fun h' => hx ((ult_iff x y).2 h')
    have hne : (x.toNat : Int) ≠ (y.toNat : Int) := fun e => h (UInt8.toNat_inj.1 (by omega))
    rw [if_neg this, if_pos (by omega), if_neg hx]

theorem cmpI_u8_ne (x y : UInt8) (h : x ≠ y) : cmpI (x.toNat : Int) (y.toNat : Int) ≠ 0 := by
  rw [cmpI_u8 x y h]; split <;> decide

theorem cmpI_self (x : Int) : cmpI x x = 0 := by unfold cmpI; simp

theorem cmp_six (m n : Mac) : Extern.BytealgCompare.cmp ⟨#[m.a, m.b, m.c, m.d, m.e, m.f]⟩ ⟨#[n.a, n.b, n.c, n.d, n.e, n.f]⟩ = cmpMac m n := by
  obtain ⟨a, b, c, d, e, f⟩ := m
  obtain ⟨a', b', c', d', e', f'⟩ := n
  have s1 : (ByteArray.mk #[a, b, c, d, e, f]).size = 6 := rfl
  have s2 : (ByteArray.mk #[a', b', c', d', e', f']).size = 6 := rfl
  have r6 : List.range 6 = [0, 1, 2, 3, 4, 5] := rfl
  have g0 : (ByteArray.mk #[a, b, c, d, e, f])[0]! = a := rfl
  have g1 : (ByteArray.mk #[a, b, c, d, e, f])[1]! = b := rfl
  have g2 : (ByteArray.mk #[a, b, c, d, e, f])[2]! = c := rfl
  have g3 : (ByteArray.mk #[a, b, c, d, e, f])[3]! = d := rfl
  have g4 : (ByteArray.mk #[a, b, c, d, e, f])[4]! = e := rfl
  have g5 : (ByteArray.mk #[a, b, c, d, e, f])[5]! = f := rfl
  have k0 : (ByteArray.mk #[a', b', c', d', e', f'])[0]! = a' := rfl
  have k1 : (ByteArray.mk #[a', b', c', d', e', f'])[1]! = b' := rfl
  have k2 : (ByteArray.mk #[a', b', c', d', e', f'])[2]! = c' := rfl
  have k3 : (ByteArray.mk #[a', b', c', d', e', f'])[3]! = d' := rfl
  have k4 : (ByteArray.mk #[a', b', c', d', e', f'])[4]! = e' := rfl
  have k5 : (ByteArray.mk #[a', b', c', d', e', f'])[5]! = f' := rfl
  unfold Extern.BytealgCompare.cmp cmpMac
  rw [s1, s2, Nat.min_self, r6]
  simp only [List.find?, g0, g1, g2, g3, g4, g5, k0, k1, k2, k3, k4, k5]
  by_cases h0 : a = a'
  · subst h0
    by_cases h1 : b = b'
    · subst h1
      by_cases h2 : c = c'
      · subst h2
        by_cases h3 : d = d'
        · subst h3
          by_cases h4 : e = e'
          · subst h4
            by_cases h5 : f = f'
            · subst h5; simp [orI, cmpI_self]
            · (have hq : (f == f') = false := beq_eq_false_iff_ne.2 h5; have hv := cmpI_u8 _ _ h5; by_cases hlt : f < f' <;> simp [orI, cmpI_self, bne, hq, hv, hlt, k5, g5])
          · (have hq : (e == e') = false := beq_eq_false_iff_ne.2 h4; have hv := cmpI_u8 _ _ h4; by_cases hlt : e < e' <;> simp [orI, cmpI_self, bne, hq, hv, hlt, k4, g4])
        · (have hq : (d == d') = false := beq_eq_false_iff_ne.2 h3; have hv := cmpI_u8 _ _ h3; by_cases hlt : d < d' <;> simp [orI, cmpI_self, bne, hq, hv, hlt, k3, g3])
      · (have hq : (c == c') = false := beq_eq_false_iff_ne.2 h2; have hv := cmpI_u8 _ _ h2; by_cases hlt : c < c' <;> simp [orI, cmpI_self, bne, hq, hv, hlt, k2, g2])
    · (have hq : (b == b') = false := beq_eq_false_iff_ne.2 h1; have hv := cmpI_u8 _ _ h1; by_cases hlt : b < b' <;> simp [orI, cmpI_self, bne, hq, hv, hlt, k1, g1])
  · (have hq : (a == a') = false := beq_eq_false_iff_ne.2 h0; have hv := cmpI_u8 _ _ h0; by_cases hlt : a < a' <;> simp [orI, cmpI_self, bne, hq, hv, hlt, k0, g0])

theorem loadBytes_cells (P : Program) (w : World) : ∀ (l : List UInt8) (p : Addr) (acc : ByteArray), (∀ i (_ : i < l.length), w.cell? (p.add i) = some (bV l[i])) →
    (Extern.Bytes.loadBytes p l.length acc).run P w = .ok (l.foldl (fun s x => s.push x) acc) w := by
  intro l
  induction l with
  | nil => intro p acc _; rfl
  | cons x r ih =>
    intro p acc h
    have h0 : w.cell? p = some (bV x) := by have := h 0 (by simp); simpa [Addr.add] using this
    have ht : ∀ i (_ : i < r.length), w.cell? ((p.add 1).add i) = some (bV r[i]) := fun i hi => by
      have := h (i + 1) (by simp; omega)
      have e : p.add (i + 1) = (p.add 1).add i := by unfold Addr.add; by_cases hi0 : i = 0 <;> simp [hi0]; omega
      rw [e] at this; simpa using this
    show (Extern.Bytes.loadBytes p (r.length + 1) acc).run P w = _
    simp only [Extern.Bytes.loadBytes, Sem.run_bind, run_load, h0, Result.andThen]
    have e : (((x.toNat : Int)).toNat).toUInt8 = x := by simp
    rw [e, ih (p.add 1) (acc.push x) ht]; rfl

theorem run_bytealg (a b : Addr) (ca cb : Nat) (m n : Mac) (w : World)
    (ha : ∀ i v, [m.a, m.b, m.c, m.d, m.e, m.f][i]? = some v → w.cell? (a.add i) = some (bV v))
    (hb : ∀ i v, [n.a, n.b, n.c, n.d, n.e, n.f][i]? = some v → w.cell? (b.add i) = some (bV v)) :
    (callFunc 35 #[.slice (some a) 6 ca, .slice (some b) 6 cb]).run Try.prog w = .ok (.value (iV (cmpMac m n))) w := by
  rw [run_callFunc_extern Try.func35 (by kernel_rfl) (by kernel_rfl) (by kernel_rfl) (e := Extern.BytealgCompare.compare) (by kernel_rfl)]
  have h1 := loadBytes_cells Try.prog w [m.a, m.b, m.c, m.d, m.e, m.f] a .empty (fun i hi => ha i _ (by simp [hi]))
  have h2 := loadBytes_cells Try.prog w [n.a, n.b, n.c, n.d, n.e, n.f] b .empty (fun i hi => hb i _ (by simp [hi]))
  have e : (Extern.BytealgCompare.compare #[.slice (some a) 6 ca, .slice (some b) 6 cb]).run Try.prog w = .ok (iV (cmpMac m n)) w := by
    change Sem.run Try.prog (do pure (goInt (Extern.BytealgCompare.cmp (← Extern.Bytes.loadBytes a 6 .empty) (← Extern.Bytes.loadBytes b 6 .empty)))) w = _
    simp only [Sem.run_bind, Sem.run_pure, List.length_cons, List.length_nil, Nat.zero_add, Nat.reduceAdd] at h1 h2 ⊢
    rw [h1]; simp only [Result.andThen]; rw [h2]; simp only []
    have := cmp_six m n
    show Result.ok (goInt (Extern.BytealgCompare.cmp ⟨#[m.a, m.b, m.c, m.d, m.e, m.f]⟩ ⟨#[n.a, n.b, n.c, n.d, n.e, n.f]⟩)) w = _
    rw [this]; rfl
  rw [e]; rfl

theorem bytesCmp_six (a b : Addr) (ca cb : Nat) (m n : Mac) (w : World)
    (ha : ∀ i v, [m.a, m.b, m.c, m.d, m.e, m.f][i]? = some v → w.cell? (a.add i) = some (bV v))
    (hb : ∀ i v, [n.a, n.b, n.c, n.d, n.e, n.f][i]? = some v → w.cell? (b.add i) = some (bV v)) :
    Calls Try.prog 34 #[.slice (some a) 6 ca, .slice (some b) 6 cb] w fun e w' => e = .returned (iV (cmpMac m n)) ∧ w = w' := by
  have hr := run_bytealg a b ca cb m n w ha hb
  clear ha hb
  go_enter Try.func34, Try.ntmps34
  go_wp2
  go_ret
  exact ⟨rfl, rfl⟩

/-- six cells hold an address. -/
def At6 (w : World) (b o : Nat) (m : Mac) : Prop :=
  w.cell? ⟨b, o, none⟩ = some (bV m.a) ∧ w.cell? ⟨b, o + 1, none⟩ = some (bV m.b) ∧ w.cell? ⟨b, o + 2, none⟩ = some (bV m.c) ∧
  w.cell? ⟨b, o + 3, none⟩ = some (bV m.d) ∧ w.cell? ⟨b, o + 4, none⟩ = some (bV m.e) ∧ w.cell? ⟨b, o + 5, none⟩ = some (bV m.f)

theorem At6.all {w : World} {b o : Nat} {m : Mac} (h : At6 w b o m) : ∀ i v, [m.a, m.b, m.c, m.d, m.e, m.f][i]? = some v → w.cell? (Addr.add ⟨b, o, none⟩ i) = some (bV v) := by
  obtain ⟨h0, h1, h2, h3, h4, h5⟩ := h
  intro i v hv
  rcases i with _ | _ | _ | _ | _ | _ | i
  · simp at hv; subst hv; simpa [Addr.add] using h0
  · simp at hv; subst hv; simpa [Addr.add] using h1
  · simp at hv; subst hv; simpa [Addr.add] using h2
  · simp at hv; subst hv; simpa [Addr.add] using h3
  · simp at hv; subst hv; simpa [Addr.add] using h4
  · simp at hv; subst hv; simpa [Addr.add] using h5
  · simp at hv

theorem bytesCmp_at (b o b' o' ca cb : Nat) (m n : Mac) (w : World) (ha : At6 w b o m) (hb : At6 w b' o' n) :
    Calls Try.prog 34 #[.slice (some ⟨b, o, none⟩) 6 ca, .slice (some ⟨b', o', none⟩) 6 cb] w fun e w' => e = .returned (iV (cmpMac m n)) ∧ w' = w :=
  (bytesCmp_six _ _ ca cb m n w ha.all hb.all).mono fun _ _ h => ⟨h.1, h.2.symm⟩
end Go.Proofs.Ytbfpmgcadinmbaa
