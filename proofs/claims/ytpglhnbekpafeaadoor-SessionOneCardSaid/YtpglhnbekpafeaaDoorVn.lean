/-
  The plain laws of SessionMeets and SessionSticks: two that hear one another. No program in sight.
-/
import Derived.Test.YtpglhnbekpafeaaDoorVp
namespace Go.Proofs.YtpglhnbekpafeaaDoor
set_option linter.unusedVariables false
set_option linter.unusedSimpArgs false
open Go

theorem hello_ok {s : Ses} (h : SesOk s) : helloB s.hello = true := by
  have h1 := h.life
  have h2 := h.known
  have h3 := h.prio
  have h4 := h.claim
  have r : rightB s.hello.note = true := by
    unfold rightB
    have e1 : withinB s.hello.note.kind 0 8 = true := rfl
    have e2 : fitsB s.hello.note.kind s.hello.note.port 4 0 1000 = true := by
      show (if hasB 6 4 then withinB s.prio 0 1000 else withinB s.prio 0 0) = true
      rw [if_pos (by decide)]; exact decide_eq_true h3
    have e3 : fitsB s.hello.note.kind s.hello.note.state 8 0 (statesN s.hello.note.kind) = true := by
      show (if hasB 6 8 then withinB s.claim 0 (statesN 6) else withinB s.claim 0 0) = true
      rw [if_pos (by decide)]; exact decide_eq_true h4
    rw [e1, e2, e3]
    show (true && (hasB 6 2 || decide (mac0 = mac0)) && fitsB 6 0 1 1 4094 && true && true && fitsB 6 ((0 : Nat) : Int) 16 0 1600) = true
    decide +kernel
  unfold helloB encB numB
  rw [r]
  show (true && withinB s.life 0 1073741824 && withinB 0 0 1073741824 && withinB s.known 0 1073741824 && decide ((0 : Int) = 0) && decide ((6 : Int) = 6) && decide (1 ≤ s.life) && decide (s.life ≤ 536870912)) = true
  unfold withinB
  rw [decide_eq_true (show 0 ≤ s.life ∧ s.life ≤ 1073741824 by omega), decide_eq_true (show 0 ≤ s.known ∧ s.known ≤ 1073741824 by omega), decide_eq_true h1.1, decide_eq_true h1.2]
  rfl
theorem moment_ok {n : Int} (h0 : 0 ≤ n) (h1 : n ≤ 1099511627776) : momentB n = true := decide_eq_true ⟨h0, h1⟩

/-- what Take comes to, where a hello is heard. -/
theorem take_hear {s o : Ses} {now : Int} (ho : SesOk o) (hm : momentB now = true) (hk : s.known ≤ o.life) :
    s.take o.hello now = if o.known ≠ (s.heard o.hello now).life ∨ (s.heard o.hello now).up = true ∨ (s.heard o.hello now).life = 536870912 then (s.heard o.hello now, false, 0) else (Ses.elect { s.heard o.hello now with up := true } o.claim, true, 0) := by
  unfold Ses.take
  rw [hm, hello_ok ho, if_neg (by simp), if_neg (by simp), if_neg (show ¬ o.hello.epoch < s.known by show ¬ o.life < s.known; omega)]
  rfl
theorem heard_same {s o : Ses} {now : Int} (h : s.up = false ∨ o.life ≤ s.known) : s.heard o.hello now = { s with link := now, known := o.life, op := o.prio } := by
  unfold Ses.heard
  dsimp only
  rw [if_neg]
  · rfl
  · rintro ⟨h1, h2⟩
    have h1 : s.known < o.life := h1
    rcases h with h | h
    · rw [h] at h2; cases h2
    · omega

def first (a : Ses) (b : Ses) : Bool := aheadB a.prio a.id b.prio b.id
def roleOf (a b : Ses) : Int := if electB a.claim b.claim (first a b) then 2 else 1
theorem first_not {a b : Ses} (ha : a.id ≠ b.id) : first a b = !first b a := by
  unfold first aheadB
  by_cases h : a.prio = b.prio
  · rw [if_pos h, if_pos h.symm]
    by_cases h1 : a.id < b.id
    · rw [decide_eq_true h1, decide_eq_false (by omega)]; rfl
    · rw [decide_eq_false h1, decide_eq_true (by omega)]; rfl
  · rw [if_neg h, if_neg (fun e => h e.symm)]
    by_cases h1 : a.prio < b.prio
    · rw [decide_eq_true h1, decide_eq_false (by omega)]; rfl
    · rw [decide_eq_false h1, decide_eq_true (by omega)]; rfl
theorem roles_apart {a b : Ses} (ha : a.id ≠ b.id) : (roleOf a b = 2 ↔ roleOf b a = 1) ∧ (roleOf a b = 1 ∨ roleOf a b = 2) ∧ (roleOf b a = 1 ∨ roleOf b a = 2) := by
  unfold roleOf electB
  rw [first_not ha]
  rcases (by omega : a.claim > b.claim ∨ a.claim < b.claim ∨ a.claim = b.claim) with h | h | h
  · rw [decide_eq_true h, decide_eq_false (show ¬ b.claim > a.claim by omega), decide_eq_false (show ¬ b.claim = a.claim by omega)]; simp
  · rw [decide_eq_false (show ¬ a.claim > b.claim by omega), decide_eq_true (show b.claim > a.claim from h), decide_eq_false (show ¬ a.claim = b.claim by omega)]; simp
  · rw [decide_eq_false (show ¬ a.claim > b.claim by omega), decide_eq_false (show ¬ b.claim > a.claim by omega), decide_eq_true h, decide_eq_true h.symm]
    cases first b a <;> simp

/-- behind so many rounds: 0 none, 1 one has come up, 2 both have. -/
structure Two (now M : Int) (a b : Ses) : Prop where
  oa : SesOk a
  ob : SesOk b
  ids : a.id + b.id = 1
  la : a.life ≤ M
  lb : b.life ≤ M
  ta : a.beat = 0
  tb : b.beat = 0
structure Meet (k : Nat) (now M : Int) (a b : Ses) : Prop extends Two now M a b where
  ks : if k = 0 then a.up = false ∧ b.up = false ∧ a.known < b.life ∧ b.known < a.life
    else a.up = true ∧ a.known = b.life ∧ b.known = a.life ∧ a.role = roleOf a b ∧ a.link = now ∧ b.link = now ∧ (if k = 1 then b.up = false else b.up = true ∧ b.role = roleOf b a)

theorem meet_first {now M : Int} {a b : Ses} (hM : M < 536870912) (hm : momentB now = true) (h : Meet 0 now M a b) :
    (b.take a.hello now) = ({ b with link := now, known := a.life, op := a.prio }, false, 0) ∧
    (a.take (Ses.hello { b with link := now, known := a.life, op := a.prio }) now) = (Ses.elect { a with link := now, known := b.life, op := b.prio, up := true } b.claim, true, 0) := by
  obtain ⟨h1, h2, h3, h4⟩ := h.ks
  have hb := take_hear (s := b) (o := a) h.oa hm (by omega)
  rw [heard_same (.inl h2)] at hb
  have hb' : b.take a.hello now = ({ b with link := now, known := a.life, op := a.prio }, false, 0) := by
    rw [hb, if_pos (.inl (by show a.known ≠ b.life; omega))]
  refine ⟨hb', ?_⟩
  have ob' : SesOk { b with link := now, known := a.life, op := a.prio } := by have := h.ob.take a.hello now; rw [hb'] at this; exact this
  have ha := take_hear (s := a) (o := { b with link := now, known := a.life, op := a.prio }) ob' hm (by show a.known ≤ b.life; omega)
  rw [heard_same (.inl h1)] at ha
  rw [ha, if_neg]
  have := h.la
  rintro (e | e | e)
  · exact e rfl
  · have e : a.up = true := e
    rw [h1] at e; cases e
  · have e : a.life = 536870912 := e
    omega
theorem meet_one {now M : Int} {a b : Ses} (hM : M < 536870912) (hm : momentB now = true) (h : Meet 0 now M a b) :
    (b.take a.hello now).2.2 = 0 ∧ (a.take (b.take a.hello now).1.hello now).2.2 = 0 ∧ Meet 1 now M (a.take (b.take a.hello now).1.hello now).1 (b.take a.hello now).1 := by
  obtain ⟨e1, e2⟩ := meet_first hM hm h
  have ob := h.ob.take a.hello now
  have oa := h.oa.take (b.take a.hello now).1.hello now
  rw [e1] at ob oa ⊢
  dsimp only at ob oa ⊢
  rw [e2] at oa ⊢
  refine ⟨rfl, rfl, ⟨oa, ob, h.ids, h.la, h.lb, h.ta, h.tb⟩, ?_⟩
  obtain ⟨h1, h2, h3, h4⟩ := h.ks
  rw [if_neg (by decide)]
  refine ⟨rfl, rfl, rfl, ?_, rfl, rfl, by rw [if_pos rfl]; exact h2⟩
  show (if electB a.claim b.claim (aheadB a.prio a.id b.prio a.oid) then (2 : Int) else 1) = if electB a.claim b.claim (aheadB a.prio a.id b.prio b.id) then 2 else 1
  have e : a.oid = b.id := by have := h.oa.oid; have := h.ids; omega
  rw [e]
theorem meet_two {now M : Int} {a b : Ses} (hM : M < 536870912) (hm : momentB now = true) (h : Meet 1 now M a b) :
    (b.take a.hello now).2.2 = 0 ∧ (a.take (b.take a.hello now).1.hello now).2.2 = 0 ∧ Meet 2 now M (a.take (b.take a.hello now).1.hello now).1 (b.take a.hello now).1 := by
  have hks := h.ks
  rw [if_neg (by decide)] at hks
  obtain ⟨h1, h2, h3, h4, h5, h6, h7⟩ := hks
  rw [if_pos rfl] at h7
  have hb := take_hear (s := b) (o := a) h.oa hm (by omega)
  rw [heard_same (.inl h7)] at hb
  have hlb := h.lb
  have hb' : b.take a.hello now = (Ses.elect { b with link := now, known := a.life, op := a.prio, up := true } a.claim, true, 0) := by
    rw [hb, if_neg]
    rintro (e | e | e)
    · exact e h2
    · have e : b.up = true := e
      rw [h7] at e; cases e
    · have e : b.life = 536870912 := e
      omega
  have ob := h.ob.take a.hello now
  rw [hb'] at ob
  have ha := take_hear (s := a) (o := Ses.elect { b with link := now, known := a.life, op := a.prio, up := true } a.claim) ob hm (by show a.known ≤ b.life; omega)
  rw [heard_same (.inr (by show b.life ≤ a.known; omega))] at ha
  have ha' : a.take (Ses.elect { b with link := now, known := a.life, op := a.prio, up := true } a.claim).hello now = ({ a with link := now, known := b.life, op := b.prio }, false, 0) := by
    rw [ha, if_pos (.inr (.inl h1))]; rfl
  have oa := h.oa.take (b.take a.hello now).1.hello now
  rw [hb'] at oa ⊢
  dsimp only at oa ⊢
  rw [ha'] at oa ⊢
  refine ⟨rfl, rfl, ⟨oa, ob, h.ids, h.la, h.lb, h.ta, h.tb⟩, ?_⟩
  rw [if_neg (by decide)]
  refine ⟨h1, rfl, rfl, ?_, rfl, rfl, ?_⟩
  · show a.role = _
    rw [h4]; rfl
  · rw [if_neg (by decide)]
    refine ⟨rfl, ?_⟩
    show (if electB b.claim a.claim (aheadB b.prio b.id a.prio b.oid) then (2 : Int) else 1) = if electB b.claim a.claim (aheadB b.prio b.id a.prio a.id) then 2 else 1
    have e : b.oid = a.id := by have := h.ob.oid; have := h.ids; omega
    rw [e]
theorem meet_three {now M : Int} {a b : Ses} (hM : M < 536870912) (hm : momentB now = true) (h : Meet 2 now M a b) :
    (b.take a.hello now).2.2 = 0 ∧ (a.take (b.take a.hello now).1.hello now).2.2 = 0 ∧ Meet 2 now M (a.take (b.take a.hello now).1.hello now).1 (b.take a.hello now).1 := by
  have hks := h.ks
  rw [if_neg (by decide)] at hks
  obtain ⟨h1, h2, h3, h4, h5, h6, h7⟩ := hks
  rw [if_neg (by decide)] at h7
  have hb := take_hear (s := b) (o := a) h.oa hm (by omega)
  rw [heard_same (.inr (by omega))] at hb
  have hb' : b.take a.hello now = ({ b with link := now, known := a.life, op := a.prio }, false, 0) := by
    rw [hb, if_pos (.inr (.inl h7.1))]
  have ob := h.ob.take a.hello now
  rw [hb'] at ob
  have ha := take_hear (s := a) (o := { b with link := now, known := a.life, op := a.prio }) ob hm (by show a.known ≤ b.life; omega)
  rw [heard_same (.inr (by show b.life ≤ a.known; omega))] at ha
  have ha' : a.take (Ses.hello { b with link := now, known := a.life, op := a.prio }) now = ({ a with link := now, known := b.life, op := b.prio }, false, 0) := by
    rw [ha, if_pos (.inr (.inl h1))]
  have oa := h.oa.take (b.take a.hello now).1.hello now
  rw [hb'] at oa ⊢
  dsimp only at oa ⊢
  rw [ha'] at oa ⊢
  refine ⟨rfl, rfl, ⟨oa, ob, h.ids, h.la, h.lb, h.ta, h.tb⟩, ?_⟩
  rw [if_neg (by decide)]
  refine ⟨h1, rfl, rfl, h4, rfl, rfl, ?_⟩
  rw [if_neg (by decide)]
  exact ⟨h7.1, h7.2⟩
theorem meet_any {k : Nat} (hk : k < 3) {now M : Int} {a b : Ses} (hM : M < 536870912) (hm : momentB now = true) (h : Meet (min k 2) now M a b) :
    (b.take a.hello now).2.2 = 0 ∧ (a.take (b.take a.hello now).1.hello now).2.2 = 0 ∧ Meet (min (k + 1) 2) now M (a.take (b.take a.hello now).1.hello now).1 (b.take a.hello now).1 := by
  rcases (by omega : k = 0 ∨ k = 1 ∨ k = 2) with rfl | rfl | rfl
  · exact meet_one hM hm h
  · exact meet_two hM hm h
  · exact meet_three hM hm h
/-- up in one epoch, and just one is Primary. -/
theorem meet_up {now M : Int} {a b : Ses} (h : Meet 2 now M a b) : a.up = true ∧ b.up = true ∧ a.epoch = b.epoch ∧ (decide (a.role = 2) = !decide (b.role = 2)) := by
  have hks := h.ks
  rw [if_neg (by decide)] at hks
  obtain ⟨h1, h2, h3, h4, h5, h6, h7⟩ := hks
  rw [if_neg (by decide)] at h7
  refine ⟨h1, h7.1, ?_, ?_⟩
  · unfold Ses.epoch; rw [h1, h7.1, h2, h3, if_pos rfl, if_pos rfl]; omega
  · rw [h4, h7.2]
    obtain ⟨r1, r2, r3⟩ := roles_apart (a := a) (b := b) (by have := h.ids; omega)
    rcases r2 with r2 | r2 <;> rcases r3 with r3 | r3 <;> rw [r2, r3] at r1 ⊢ <;> simp at r1 ⊢
/-- nothing is heard for six moments, twice. -/
theorem part_one {now M : Int} {s : Ses} (hs : SesOk s) (hm : momentB (now + 6) = true) (hu : s.up = true) (hl : s.link = now) : s.tick (now + 6) = (s.reborn, true, 0) := by
  unfold Ses.tick
  rw [hm, if_neg (by simp), if_pos ⟨by omega, hu⟩]
theorem part_two {now : Int} {s : Ses} (h0 : 0 ≤ now) (hm : momentB (now + 6 + 6) = true) (hu : s.up = false) (hl : s.link = now) (hb : s.beat = 0) :
    (s.tick (now + 6 + 6)).1 = (if s.role = 2 then s else Ses.reborn { s with role := 2 }) ∧ ((s.tick (now + 6 + 6)).1).role = 2 ∧ (s.tick (now + 6 + 6)).2.2 = 0 := by
  unfold Ses.tick
  rw [hm, if_neg (by simp), if_neg (by rintro ⟨_, h⟩; rw [hu] at h; cases h)]
  by_cases hr : s.role = 2
  · rw [if_neg (fun h => h.2.2 hr), if_pos hr]; exact ⟨rfl, hr, rfl⟩
  · rw [if_pos ⟨by omega, by omega, hr⟩, if_neg hr]; exact ⟨rfl, rfl, rfl⟩
theorem meet_part {now M : Int} {a b : Ses} (h0 : 0 ≤ now) (h1 : now + 6 + 6 ≤ 1099511627776) (hM : M + 2 < 536870912) (h : Meet 2 now M a b) :
    ((a.tick (now + 6)).2 = (true, 0) ∧ (b.tick (now + 6)).2 = (true, 0) ∧ (a.tick (now + 6)).1.up = false ∧ (b.tick (now + 6)).1.up = false) ∧
    (((a.tick (now + 6)).1.tick (now + 6 + 6)).1.role = 2 ∧ ((b.tick (now + 6)).1.tick (now + 6 + 6)).1.role = 2) ∧
    Meet 0 (now + 6 + 6) (M + 2) ((a.tick (now + 6)).1.tick (now + 6 + 6)).1 ((b.tick (now + 6)).1.tick (now + 6 + 6)).1 := by
  have hks := h.ks
  rw [if_neg (by decide)] at hks
  obtain ⟨g1, g2, g3, g4, g5, g6, g7⟩ := hks
  rw [if_neg (by decide)] at g7
  have ea := part_one (M := M) h.oa (moment_ok (by omega) (by omega)) g1 g5
  have eb := part_one (M := M) h.ob (moment_ok (by omega) (by omega)) g7.1 g6
  have oa2 := (h.oa.tick (now + 6)).tick (now + 6 + 6)
  have ob2 := (h.ob.tick (now + 6)).tick (now + 6 + 6)
  rw [ea, eb] at *
  dsimp only at *
  obtain ⟨pa1, pa2, pa3⟩ := part_two (s := a.reborn) h0 (moment_ok (by omega) h1) rfl g5 h.ta
  obtain ⟨pb1, pb2, pb3⟩ := part_two (s := b.reborn) h0 (moment_ok (by omega) h1) rfl g6 h.tb
  refine ⟨⟨rfl, rfl, rfl, rfl⟩, ⟨pa2, pb2⟩, ?_⟩
  have hla := h.la
  have hlb := h.lb
  have lifeA : (a.reborn.tick (now + 6 + 6)).1.up = false ∧ (a.reborn.tick (now + 6 + 6)).1.known = a.known ∧ (a.reborn.tick (now + 6 + 6)).1.id = a.id ∧ a.life + 1 ≤ (a.reborn.tick (now + 6 + 6)).1.life ∧ (a.reborn.tick (now + 6 + 6)).1.life ≤ a.life + 2 ∧ (a.reborn.tick (now + 6 + 6)).1.beat = a.beat := by
    rw [pa1]
    split
    · refine ⟨rfl, rfl, rfl, ?_, ?_, rfl⟩
      · show a.life + 1 ≤ min (a.life + 1) 536870912; omega
      · show min (a.life + 1) 536870912 ≤ a.life + 2; omega
    · refine ⟨rfl, rfl, rfl, ?_, ?_, rfl⟩
      · show a.life + 1 ≤ min (min (a.life + 1) 536870912 + 1) 536870912; omega
      · show min (min (a.life + 1) 536870912 + 1) 536870912 ≤ a.life + 2; omega
  have lifeB : (b.reborn.tick (now + 6 + 6)).1.up = false ∧ (b.reborn.tick (now + 6 + 6)).1.known = b.known ∧ (b.reborn.tick (now + 6 + 6)).1.id = b.id ∧ b.life + 1 ≤ (b.reborn.tick (now + 6 + 6)).1.life ∧ (b.reborn.tick (now + 6 + 6)).1.life ≤ b.life + 2 ∧ (b.reborn.tick (now + 6 + 6)).1.beat = b.beat := by
    rw [pb1]
    split
    · refine ⟨rfl, rfl, rfl, ?_, ?_, rfl⟩
      · show b.life + 1 ≤ min (b.life + 1) 536870912; omega
      · show min (b.life + 1) 536870912 ≤ b.life + 2; omega
    · refine ⟨rfl, rfl, rfl, ?_, ?_, rfl⟩
      · show b.life + 1 ≤ min (min (b.life + 1) 536870912 + 1) 536870912; omega
      · show min (min (b.life + 1) 536870912 + 1) 536870912 ≤ b.life + 2; omega
  obtain ⟨a1, a2, a3, a4, a5, a6⟩ := lifeA
  obtain ⟨b1, b2, b3, b4, b5, b6⟩ := lifeB
  refine ⟨⟨oa2, ob2, by rw [a3, b3]; exact h.ids, by omega, by omega, a6.trans h.ta, b6.trans h.tb⟩, ?_⟩
  rw [if_pos rfl]
  exact ⟨a1, b1, by omega, by omega⟩
theorem meet_start {p0 l0 p1 l1 : Int} (h0 : newB 0 p0 l0 = true) (h1 : newB 1 p1 l1 = true) (now M : Int) (hl0 : l0 ≤ M) (hl1 : l1 ≤ M) : Meet 0 now M (Ses.new 0 p0 l0) (Ses.new 1 p1 l1) := by
  have g0 := of_decide_eq_true h0
  have g1 := of_decide_eq_true h1
  refine ⟨⟨Ses.new_ok h0, Ses.new_ok h1, rfl, hl0, hl1, rfl, rfl⟩, ?_⟩
  rw [if_pos rfl]
  exact ⟨rfl, rfl, by show (0 : Int) < l1; omega, by show (0 : Int) < l0; omega⟩
/-! SessionSticks -/
theorem take_claim {s o : Ses} {now : Int} (ho : SesOk o) (hm : momentB now = true) (hk : s.known ≤ o.life) (h : s.up = false ∨ o.life ≤ s.known) : (s.take o.hello now).1.claim = s.claim := by
  rw [take_hear ho hm hk, heard_same h]
  split <;> rfl
theorem meet_claims {k : Nat} {now M : Int} {a b : Ses} (hm : momentB now = true) (h : Meet k now M a b) :
    (b.take a.hello now).1.claim = b.claim ∧ (b.take a.hello now).1.life = b.life ∧ (a.take (b.take a.hello now).1.hello now).1.claim = a.claim := by
  have hks := h.ks
  have hb : b.known ≤ a.life ∧ (b.up = false ∨ a.life ≤ b.known) ∧ a.known ≤ b.life ∧ (a.up = false ∨ b.life ≤ a.known) := by
    by_cases h0 : k = 0
    · rw [if_pos h0] at hks
      exact ⟨by omega, .inl hks.2.1, by omega, .inl hks.1⟩
    · rw [if_neg h0] at hks
      exact ⟨by omega, .inr (by omega), by omega, .inr (by omega)⟩
  have e1 := take_claim (s := b) (o := a) h.oa hm hb.1 hb.2.1
  have e2 : (b.take a.hello now).1.life = b.life := by
    rw [take_hear h.oa hm hb.1, heard_same hb.2.1]
    split <;> rfl
  refine ⟨e1, e2, ?_⟩
  exact take_claim (h.ob.take _ _) hm (by rw [e2]; exact hb.2.2.1) (by rw [e2]; exact hb.2.2.2)
/-- alone at first: Primary in a new life. -/
theorem alone_tick {id prio life : Int} (h : newB id prio life = true) : (Ses.new id prio life).tick 6 = (Ses.reborn { Ses.new id prio life with role := 2 }, false, 0) := by
  unfold Ses.tick
  rw [show momentB 6 = true by decide, if_neg (by simp), if_neg (by rintro ⟨_, h⟩; cases h)]
  exact if_pos ⟨by show (6 : Int) ≤ 6 - 0; omega, by show (6 : Int) ≤ 6 - 0; omega, by show (0 : Int) ≠ 2; omega⟩
theorem stick_start {i0 i1 p0 l0 p1 l1 M : Int} (h0 : newB i0 p0 l0 = true) (h1 : newB i1 p1 l1 = true) (hi : i0 + i1 = 1) (hl0 : l0 + 1 ≤ M) (hl1 : l1 ≤ M) (hM : M < 536870912) :
    Meet 0 7 M (Ses.reborn { Ses.new i0 p0 l0 with role := 2 }) (Ses.new i1 p1 l1) ∧ (Ses.reborn { Ses.new i0 p0 l0 with role := 2 }).claim = 2 ∧ (Ses.new i1 p1 l1).claim = 0 ∧
      (Ses.reborn { Ses.new i0 p0 l0 with role := 2 }).role = 2 ∧ (Ses.reborn { Ses.new i0 p0 l0 with role := 2 }).up = false ∧ (Ses.reborn { Ses.new i0 p0 l0 with role := 2 }).life = l0 + 1 := by
  have g0 := of_decide_eq_true h0
  have g1 := of_decide_eq_true h1
  have hlife : (Ses.reborn { Ses.new i0 p0 l0 with role := 2 }).life = l0 + 1 := by
    show min (l0 + 1) 536870912 = l0 + 1
    omega
  have hok : SesOk (Ses.reborn { Ses.new i0 p0 l0 with role := 2 }) := by
    have := (Ses.new_ok h0).tick 6
    rw [alone_tick h0] at this
    exact this
  refine ⟨⟨⟨hok, Ses.new_ok h1, hi, by omega, hl1, rfl, rfl⟩, ?_⟩, rfl, rfl, rfl, rfl, hlife⟩
  rw [if_pos rfl]
  exact ⟨rfl, rfl, by show (0 : Int) < l1; omega, by rw [hlife]; show (0 : Int) < l0 + 1; omega⟩
theorem stick_end {M : Int} {a b : Ses} (h : Meet 2 7 M a b) (hc : a.claim = 2) (hd : b.claim = 0) : a.role = 2 ∧ b.role = 1 := by
  have hks := h.ks
  rw [if_neg (by decide)] at hks
  obtain ⟨h1, h2, h3, h4, h5, h6, h7⟩ := hks
  rw [if_neg (by decide)] at h7
  rw [h4, h7.2]
  unfold roleOf electB
  rw [hc, hd]
  exact ⟨rfl, rfl⟩
end Go.Proofs.YtpglhnbekpafeaaDoor
