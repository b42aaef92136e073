/-
  What the laws of the roles lean on: '==' of ways, Select of a row, a row that the law itself appends to.
-/
import Derived.Test.YtbfpmgcadinmbaaWh
import Derived.Test.YtbfpmgcadinmbaaOpen
import Derived.Laws.AppendOwn
namespace Go.Proofs.Ytbfpmgcadinmbaa
set_option linter.unusedVariables false
set_option linter.unusedSimpArgs false
open Go Go.RowKit Go.Maps

theorem partAgg {T n off : Nat} {cs : Array Value} (ha : ∀ w, (isAgg T).run Try.prog w = .ok true w) (hs : ∀ w, (sizeOf T).run Try.prog w = .ok n w) (w : World) : (part T cs off).run Try.prog w = .ok (.agg (cs.extract off (off + n))) w := by
  simp [part, Sem.run_bind, ha, hs]
theorem partOne {T off : Nat} {cs : Array Value} {v : Value} (ha : ∀ w, (isAgg T).run Try.prog w = .ok false w) (h : cs[off]? = some v) (w : World) : (part T cs off).run Try.prog w = .ok v w := by
  simp [part, Sem.run_bind, ha, h]

theorem eqVec (d : Nat) (a b : Vec) (w : World) : (Op.equalIn (d + 4) 29 a.val b.val).run Try.prog w = .ok (decide (a = b)) w := by
  have hp : Try.prog.stoodInHeld 29 = false := by kernel_rfl
  have r0 : ∀ v : Vec, ∀ w, (part 25 (vecCells v) 0).run Try.prog w = .ok v.root.val w := fun v w => partAgg (n := 7) (fun w => Try.isAgg25 w) (fun w => Try.sizeOf25 w) w
  have r1 : ∀ v : Vec, ∀ w, (part 3 (vecCells v) 7).run Try.prog w = .ok (iV v.cost) w := fun v w => partOne (fun w => Try.isAgg3 w) rfl w
  have r2 : ∀ v : Vec, ∀ w, (part 25 (vecCells v) 8).run Try.prog w = .ok v.bridge.val w := fun v w => partAgg (n := 7) (fun w => Try.isAgg25 w) (fun w => Try.sizeOf25 w) w
  have r3 : ∀ v : Vec, ∀ w, (part 3 (vecCells v) 15).run Try.prog w = .ok (iV v.port) w := fun v w => partOne (fun w => Try.isAgg3 w) rfl w
  have r4 : ∀ v : Vec, ∀ w, (part 3 (vecCells v) 16).run Try.prog w = .ok (iV v.own) w := fun v w => partOne (fun w => Try.isAgg3 w) rfl w
  have i0 := fun w => eqId d a.root b.root w
  have i2 := fun w => eqId d a.bridge b.bridge w
  have i1 := fun w => eqInt (d + 2) a.cost b.cost w
  have i3 := fun w => eqInt (d + 2) a.port b.port w
  have i4 := fun w => eqInt (d + 2) a.own b.own w
  rw [run_equalIn_agg w (d + 3) 29 _ _ (by kernel_rfl) hp]
  simp only [Program.fieldsOf, Try.underlying29, Op.eqFields]
  have key : ∀ (x : Bool), decide (a = b) = x → x = (decide (a.root = b.root) && decide (a.cost = b.cost) && decide (a.bridge = b.bridge) && decide (a.port = b.port) && decide (a.own = b.own)) := by
    rintro x rfl
    rw [Bool.eq_iff_iff]
    simp only [decide_eq_true_eq, Bool.and_eq_true]
    constructor
    · rintro rfl; simp
    · rintro ⟨⟨⟨⟨h0, h1⟩, h2⟩, h3⟩, h4⟩; cases a; cases b; simp_all
  rw [key _ rfl]
  cases h0 : decide (a.root = b.root)
  · rw [h0] at i0; simp [Op.eqFields, r0, i0, Sem.run_bind]
  · rw [h0] at i0
    cases h1 : decide (a.cost = b.cost)
    · rw [h1] at i1; simp [Op.eqFields, r0, i0, r1, i1, Sem.run_bind]
    · rw [h1] at i1
      cases h2 : decide (a.bridge = b.bridge)
      · rw [h2] at i2; simp [Op.eqFields, r0, i0, r1, i1, r2, i2, Sem.run_bind]
      · rw [h2] at i2
        cases h3 : decide (a.port = b.port)
        · rw [h3] at i3; simp [Op.eqFields, r0, i0, r1, i1, r2, i2, r3, i3, Sem.run_bind]
        · rw [h3] at i3
          cases h4 : decide (a.own = b.own)
          · rw [h4] at i4; simp [Op.eqFields, r0, i0, r1, i1, r2, i2, r3, i3, r4, i4, Sem.run_bind]
          · rw [h4] at i4; simp [Op.eqFields, r0, i0, r1, i1, r2, i2, r3, i3, r4, i4, Sem.run_bind]
theorem neq_vec (a b : Vec) (w : World) : (binOp .neq 29 a.val b.val).run Try.prog w = .ok (.bool (!decide (a = b))) w := by
  rw [run_neq_struct w 29 _ _, eqVec 9996 a b w]; rfl
theorem eql_vec (a b : Vec) (w : World) : (binOp .eql 29 a.val b.val).run Try.prog w = .ok (.bool (decide (a = b))) w := by
  rw [run_eql_struct w 29 _ _, eqVec 9996 a b w]; rfl

theorem select_is (me : Id) (a : Option Addr) (n cap : Nat) (l : List Heard) (w : World) (h : IsHeards w a n l) (hpos : 0 < w.heap.size) :
    Calls Try.prog 11 #[me.val, .slice a n cap] w (SelPost w me l) := by
  obtain ⟨h1, _, h3⟩ := h
  by_cases hn : n = 0
  · have hl : l = [] := List.length_eq_zero_iff.1 (by omega)
    exact select_any me a 0 0 n cap l w h1 hpos (fun h => absurd hn h) (by subst hl; intro i x hx; simp at hx)
  · obtain ⟨b, off, ha, hb, hc⟩ := h3 hn
    exact select_any me a b off n cap l w h1 hb (fun _ => ha) hc

theorem own_heards {w : World} {base : Nat} {v : Value} {n : Nat} {l : List Heard} (h : w.ownsRow base 38 21 v n (l.flatMap heardList)) (hn : n = l.length) : ∃ a cap, v = .slice a n cap ∧ IsHeards w a n l := by
  obtain ⟨_, ⟨rfl, rfl⟩ | ⟨g, cap, cur, rfl, _, hg, hcap, hm, hsz, htk⟩⟩ := h
  · exact ⟨none, 0, rfl, hn, by omega, fun h => absurd rfl h⟩
  · refine ⟨_, cap, rfl, hn, by unfold maxLen at hm; omega, fun hne => ⟨g, 0, rfl, block_lt hg, ?_⟩⟩
    intro i x hx j u hu
    have hi : i < l.length := (List.getElem?_eq_some_iff.1 hx).1
    have hj : j < 21 := (List.getElem?_eq_some_iff.1 hu).1
    rw [cell_of_block hg, Nat.zero_add]
    have := flat_get l i x hx j u hu
    rw [← htk, List.getElem?_take_of_lt (by omega)] at this
    simpa using this

theorem heardInfo : ∃ i : TypeInfo, Try.prog.info? 38 = some i ∧ i.zero = some (.agg #[.int .i64 0, .int .i64 0, .bool false, .bool false, .int .i64 0, .int .u8 0, .int .u8 0, .int .u8 0, .int .u8 0, .int .u8 0, .int .u8 0, .int .i64 0, .int .i64 0, .int .u8 0, .int .u8 0, .int .u8 0, .int .u8 0, .int .u8 0, .int .u8 0, .int .i64 0, .int .i64 0]) ∧ i.size = 21 ∧ i.bytes = 80 :=
  info_parts (by kernel_rfl)
theorem one_heard (h : Heard) : ∀ u ∈ heardList h, u.oneCell' = true := by
  intro u hu
  simp only [heardList, List.mem_cons, List.not_mem_nil, or_false] at hu
  rcases hu with h | h | h | h | h | h | h | h | h | h | h | h | h | h | h | h | h | h | h | h | h <;> (rw [h]; rfl)
theorem IsHeards.get {w : World} {a : Option Addr} {n : Nat} {l : List Heard} (H : IsHeards w a n l) {i : Nat} (hi : i < n) : ∃ h b off, l[i]? = some h ∧ a = some ⟨b, off, none⟩ ∧ b < w.heap.size ∧ HeardsAt w b off l := by
  obtain ⟨b, off, ha, hb, hc⟩ := H.2.2 (by omega)
  exact ⟨l[i]'(by have := H.1; omega), b, off, List.getElem?_eq_getElem _, ha, hb, hc⟩
end Go.Proofs.Ytbfpmgcadinmbaa
