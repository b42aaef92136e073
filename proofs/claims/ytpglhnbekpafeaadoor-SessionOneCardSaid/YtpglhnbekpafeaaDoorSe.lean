/-
  '==' and '!=' of addresses, as whole operations.
-/
import Derived.Test.YtpglhnbekpafeaaDoorProg
import Derived.Test.YtpglhnbekpafeaaDoorSp
import Derived.KernelRfl
namespace Go.Proofs.YtpglhnbekpafeaaDoor
set_option linter.unusedVariables false
set_option linter.unusedSimpArgs false
open Go Go.RowKit
theorem eqU8 (d : Nat) (x y : UInt8) (w : World) : (Op.equalIn (d + 1) 5 (bV x) (bV y)).run Tryd.prog w = .ok (decide (x = y)) w := by
  rw [run_equalIn_int w d 5 .u8 .u8 _ _ Tryd.underlying5]
  congr 1
  rw [Bool.eq_iff_iff]
  simp only [beq_iff_eq, decide_eq_true_eq]
  exact ⟨fun h => UInt8.toNat_inj.1 (by omega), fun h => by rw [h]⟩

theorem partU8 (l : List UInt8) (i : Nat) (x : UInt8) (h : l[i]? = some x) (w : World) : (part 5 (l.map bV).toArray (i * 1)).run Tryd.prog w = .ok (bV x) w := by
  simp [part, Sem.run_bind, Tryd.isAgg5, h]

theorem eqMac (d : Nat) (m n : Mac) (w : World) : (Op.equalIn (d + 2) 31 (.agg (macList m).toArray) (.agg (macList n).toArray)).run Tryd.prog w = .ok (decide (m = n)) w := by
  have hu := run_underlying (P := Tryd.prog) (w := w) Tryd.underlying31
  have hr : List.range' 0 6 = [0, 1, 2, 3, 4, 5] := rfl
  have p0 : ∀ w, (part 5 #[bV m.a, bV m.b, bV m.c, bV m.d, bV m.e, bV m.f] (0 * 1)).run Tryd.prog w = .ok (bV m.a) w := fun w => partU8 [m.a, m.b, m.c, m.d, m.e, m.f] 0 m.a rfl w
  have q0 : ∀ w, (part 5 #[bV n.a, bV n.b, bV n.c, bV n.d, bV n.e, bV n.f] (0 * 1)).run Tryd.prog w = .ok (bV n.a) w := fun w => partU8 [n.a, n.b, n.c, n.d, n.e, n.f] 0 n.a rfl w
  have p1 : ∀ w, (part 5 #[bV m.a, bV m.b, bV m.c, bV m.d, bV m.e, bV m.f] (1 * 1)).run Tryd.prog w = .ok (bV m.b) w := fun w => partU8 [m.a, m.b, m.c, m.d, m.e, m.f] 1 m.b rfl w
  have q1 : ∀ w, (part 5 #[bV n.a, bV n.b, bV n.c, bV n.d, bV n.e, bV n.f] (1 * 1)).run Tryd.prog w = .ok (bV n.b) w := fun w => partU8 [n.a, n.b, n.c, n.d, n.e, n.f] 1 n.b rfl w
  have p2 : ∀ w, (part 5 #[bV m.a, bV m.b, bV m.c, bV m.d, bV m.e, bV m.f] (2 * 1)).run Tryd.prog w = .ok (bV m.c) w := fun w => partU8 [m.a, m.b, m.c, m.d, m.e, m.f] 2 m.c rfl w
  have q2 : ∀ w, (part 5 #[bV n.a, bV n.b, bV n.c, bV n.d, bV n.e, bV n.f] (2 * 1)).run Tryd.prog w = .ok (bV n.c) w := fun w => partU8 [n.a, n.b, n.c, n.d, n.e, n.f] 2 n.c rfl w
  have p3 : ∀ w, (part 5 #[bV m.a, bV m.b, bV m.c, bV m.d, bV m.e, bV m.f] (3 * 1)).run Tryd.prog w = .ok (bV m.d) w := fun w => partU8 [m.a, m.b, m.c, m.d, m.e, m.f] 3 m.d rfl w
  have q3 : ∀ w, (part 5 #[bV n.a, bV n.b, bV n.c, bV n.d, bV n.e, bV n.f] (3 * 1)).run Tryd.prog w = .ok (bV n.d) w := fun w => partU8 [n.a, n.b, n.c, n.d, n.e, n.f] 3 n.d rfl w
  have p4 : ∀ w, (part 5 #[bV m.a, bV m.b, bV m.c, bV m.d, bV m.e, bV m.f] (4 * 1)).run Tryd.prog w = .ok (bV m.e) w := fun w => partU8 [m.a, m.b, m.c, m.d, m.e, m.f] 4 m.e rfl w
  have q4 : ∀ w, (part 5 #[bV n.a, bV n.b, bV n.c, bV n.d, bV n.e, bV n.f] (4 * 1)).run Tryd.prog w = .ok (bV n.e) w := fun w => partU8 [n.a, n.b, n.c, n.d, n.e, n.f] 4 n.e rfl w
  have p5 : ∀ w, (part 5 #[bV m.a, bV m.b, bV m.c, bV m.d, bV m.e, bV m.f] (5 * 1)).run Tryd.prog w = .ok (bV m.f) w := fun w => partU8 [m.a, m.b, m.c, m.d, m.e, m.f] 5 m.f rfl w
  have q5 : ∀ w, (part 5 #[bV n.a, bV n.b, bV n.c, bV n.d, bV n.e, bV n.f] (5 * 1)).run Tryd.prog w = .ok (bV n.f) w := fun w => partU8 [n.a, n.b, n.c, n.d, n.e, n.f] 5 n.f rfl w
  rw [Op.equalIn]
  simp only [Sem.run_bind, hu, Result.andThen_ok, Tryd.sizeOf5, Std.Legacy.Range.forIn_eq_forIn_range', Std.Legacy.Range.size, Nat.sub_zero, Nat.add_sub_cancel, Nat.div_one, hr, List.forIn_cons]
  by_cases h0 : m.a = n.a
  · have e0 : decide (m.a = n.a) = true := decide_eq_true h0
    by_cases h1 : m.b = n.b
    · have e1 : decide (m.b = n.b) = true := decide_eq_true h1
      by_cases h2 : m.c = n.c
      · have e2 : decide (m.c = n.c) = true := decide_eq_true h2
        by_cases h3 : m.d = n.d
        · have e3 : decide (m.d = n.d) = true := decide_eq_true h3
          by_cases h4 : m.e = n.e
          · have e4 : decide (m.e = n.e) = true := decide_eq_true h4
            by_cases h5 : m.f = n.f
            · have e5 : decide (m.f = n.f) = true := decide_eq_true h5
              have ht : decide (m = n) = true := decide_eq_true (by cases m; cases n; simp_all)
              rw [ht]; simp only [Sem.run_bind, Sem.run_pure, Sem.run_ite, Result.andThen_ok, eqU8, List.forIn_nil, Bool.not_true, Bool.not_false, Bool.false_eq_true, if_false, if_true, p0, q0, p1, q1, p2, q2, p3, q3, p4, q4, p5, q5, e0, e1, e2, e3, e4, e5]
            · have e5 : decide (m.f = n.f) = false := decide_eq_false h5
              have hf : decide (m = n) = false := decide_eq_false (fun e => h5 (by rw [e]))
              rw [hf]; simp only [Sem.run_bind, Sem.run_pure, Sem.run_ite, Result.andThen_ok, eqU8, List.forIn_nil, Bool.not_true, Bool.not_false, Bool.false_eq_true, if_false, if_true, p0, q0, p1, q1, p2, q2, p3, q3, p4, q4, p5, q5, e0, e1, e2, e3, e4, e5]
          · have e4 : decide (m.e = n.e) = false := decide_eq_false h4
            have hf : decide (m = n) = false := decide_eq_false (fun e => h4 (by rw [e]))
            rw [hf]; simp only [Sem.run_bind, Sem.run_pure, Sem.run_ite, Result.andThen_ok, eqU8, List.forIn_nil, Bool.not_true, Bool.not_false, Bool.false_eq_true, if_false, if_true, p0, q0, p1, q1, p2, q2, p3, q3, p4, q4, e0, e1, e2, e3, e4]
        · have e3 : decide (m.d = n.d) = false := decide_eq_false h3
          have hf : decide (m = n) = false := decide_eq_false (fun e => h3 (by rw [e]))
          rw [hf]; simp only [Sem.run_bind, Sem.run_pure, Sem.run_ite, Result.andThen_ok, eqU8, List.forIn_nil, Bool.not_true, Bool.not_false, Bool.false_eq_true, if_false, if_true, p0, q0, p1, q1, p2, q2, p3, q3, e0, e1, e2, e3]
      · have e2 : decide (m.c = n.c) = false := decide_eq_false h2
        have hf : decide (m = n) = false := decide_eq_false (fun e => h2 (by rw [e]))
        rw [hf]; simp only [Sem.run_bind, Sem.run_pure, Sem.run_ite, Result.andThen_ok, eqU8, List.forIn_nil, Bool.not_true, Bool.not_false, Bool.false_eq_true, if_false, if_true, p0, q0, p1, q1, p2, q2, e0, e1, e2]
    · have e1 : decide (m.b = n.b) = false := decide_eq_false h1
      have hf : decide (m = n) = false := decide_eq_false (fun e => h1 (by rw [e]))
      rw [hf]; simp only [Sem.run_bind, Sem.run_pure, Sem.run_ite, Result.andThen_ok, eqU8, List.forIn_nil, Bool.not_true, Bool.not_false, Bool.false_eq_true, if_false, if_true, p0, q0, p1, q1, e0, e1]
  · have e0 : decide (m.a = n.a) = false := decide_eq_false h0
    have hf : decide (m = n) = false := decide_eq_false (fun e => h0 (by rw [e]))
    rw [hf]; simp only [Sem.run_bind, Sem.run_pure, Sem.run_ite, Result.andThen_ok, eqU8, List.forIn_nil, Bool.not_true, Bool.not_false, Bool.false_eq_true, if_false, if_true, p0, q0, e0]


abbrev mac0List : List Value := [.int .u8 0, .int .u8 0, .int .u8 0, .int .u8 0, .int .u8 0, .int .u8 0]
theorem mac0_eq : macList mac0 = mac0List := rfl
theorem neq_mac (a b : Mac) (w : World) : (binOp .neq 31 (.agg (macList a).toArray) (.agg (macList b).toArray)).run Tryd.prog w = .ok (.bool (!decide (a = b))) w := by
  rw [run_neq_struct w 31 _ _, eqMac 9998 a b w]; rfl
theorem eql_mac (a b : Mac) (w : World) : (binOp .eql 31 (.agg (macList a).toArray) (.agg (macList b).toArray)).run Tryd.prog w = .ok (.bool (decide (a = b))) w := by
  rw [run_eql_struct w 31 _ _, eqMac 9998 a b w]; rfl
theorem neq_mac0 (a : Mac) (w : World) : (binOp .neq 31 (.agg (macList a).toArray) (.agg mac0List.toArray)).run Tryd.prog w = .ok (.bool (!decide (a = mac0))) w := neq_mac a mac0 w
end Go.Proofs.YtpglhnbekpafeaaDoor
