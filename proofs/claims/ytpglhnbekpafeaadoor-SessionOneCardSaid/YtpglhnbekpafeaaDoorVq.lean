/-
  The plain law of SessionOne: of two that are up just one is Primary. No program in sight.
-/
import Derived.Test.YtpglhnbekpafeaaDoorVn
namespace Go.Proofs.YtpglhnbekpafeaaDoor
set_option linter.unusedVariables false
set_option linter.unusedSimpArgs false
open Go

/-- a hello that s said. -/
structure SaidBy (s : Ses) (p : Pkt) : Prop where
  ok : helloB p = true
  ep : p.epoch ≤ s.life
  ack : p.ack ≤ s.known
  port : p.note.port = s.prio
  st : p.epoch = s.life → p.note.state = s.claim
  ba : p.note.ba = none
  bl : p.note.bl = 0
structure OneSide (s o : Ses) (ss so : List Pkt) (N : Int) : Prop where
  ok : SesOk s
  life : s.life ≤ N
  known : s.known ≤ o.life
  oid : s.oid = o.id
  said : ∀ p ∈ ss, SaidBy s p
  up : s.up = true → s.op = o.prio ∧ ∃ p ∈ so, p.epoch = s.known ∧ p.ack = s.life ∧ s.role = (if electB s.claim p.note.state (first s o) then 2 else 1)
structure OneInv (a b : Ses) (sa sb : List Pkt) (N : Int) : Prop where
  ga : OneSide a b sa sb N
  gb : OneSide b a sb sa N
  ne : a.id ≠ b.id
  la : sa.length ≤ N.toNat
  lb : sb.length ≤ N.toNat
theorem OneInv.swap {a b : Ses} {sa sb : List Pkt} {N : Int} (h : OneInv a b sa sb N) : OneInv b a sb sa N := ⟨h.gb, h.ga, h.ne.symm, h.lb, h.la⟩
theorem OneInv.mono {a b : Ses} {sa sb : List Pkt} {N M : Int} (h : OneInv a b sa sb N) (hN : N ≤ M) : OneInv a b sa sb M :=
  ⟨⟨h.ga.ok, by have := h.ga.life; omega, h.ga.known, h.ga.oid, h.ga.said, h.ga.up⟩, ⟨h.gb.ok, by have := h.gb.life; omega, h.gb.known, h.gb.oid, h.gb.said, h.gb.up⟩, h.ne, by have := h.la; omega, by have := h.lb; omega⟩
theorem hello_said {s : Ses} (h : SesOk s) : SaidBy s s.hello := ⟨hello_ok h, Int.le_refl _, Int.le_refl _, rfl, fun _ => rfl, rfl, rfl⟩
theorem OneInv.say {a b : Ses} {sa sb : List Pkt} {N : Int} (h : OneInv a b sa sb N) (hN : 0 ≤ N) : OneInv a b (sa ++ [a.hello]) sb (N + 1) := by
  have h' := h.mono (show N ≤ N + 1 by omega)
  refine ⟨⟨h'.ga.ok, h'.ga.life, h'.ga.known, h'.ga.oid, ?_, h'.ga.up⟩, ⟨h'.gb.ok, h'.gb.life, h'.gb.known, h'.gb.oid, h'.gb.said, ?_⟩, h.ne, ?_, h'.lb⟩
  · intro p hp
    rcases List.mem_append.1 hp with hp | hp
    · exact h.ga.said p hp
    · rw [List.mem_singleton] at hp; subst hp; exact hello_said h.ga.ok
  · intro hu
    obtain ⟨h1, p, hp, h2⟩ := h.gb.up hu
    exact ⟨h1, p, List.mem_append_left _ hp, h2⟩
  · have := h.la; simp; omega
/-- s turns into s', its life and what it knows never fall, and it is up as it was, or not at all. -/
theorem OneInv.quiet {a b a' : Ses} {sa sb : List Pkt} {N M : Int} (h : OneInv a b sa sb N) (ok : SesOk a') (hl : a.life ≤ a'.life) (hM : a'.life ≤ M) (hNM : N ≤ M) (hk : a'.known = a.known) (hid : a'.id = a.id ∧ a'.oid = a.oid ∧ a'.prio = a.prio)
    (hc : a'.life = a.life → a'.claim = a.claim) (hu : a'.up = true → a'.up = a.up ∧ a'.op = a.op ∧ a'.life = a.life ∧ a'.role = a.role) : OneInv a' b sa sb M := by
  refine ⟨⟨ok, hM, by rw [hk]; exact h.ga.known, by rw [hid.2.1]; exact h.ga.oid, ?_, ?_⟩, ⟨h.gb.ok, by have := h.gb.life; omega, by have := h.gb.known; omega, by rw [hid.1]; exact h.gb.oid, h.gb.said, ?_⟩, by rw [hid.1]; exact h.ne, by have := h.la; omega, by have := h.lb; omega⟩
  · intro p hp
    have hs := h.ga.said p hp
    refine ⟨hs.ok, by have := hs.ep; omega, by rw [hk]; exact hs.ack, by rw [hid.2.2]; exact hs.port, fun e => ?_, hs.ba, hs.bl⟩
    have := hs.ep
    have e1 : a'.life = a.life := by omega
    rw [hc e1]; exact hs.st (by omega)
  · intro hu'
    obtain ⟨g1, g2, g3, g4⟩ := hu hu'
    rw [g1] at hu'
    obtain ⟨h1, p, hp, h2, h3, h4⟩ := h.ga.up hu'
    refine ⟨by rw [g2]; exact h1, p, hp, by rw [hk]; exact h2, by rw [g3]; exact h3, ?_⟩
    rw [g4, h4, hc g3]
    unfold first
    rw [hid.1, hid.2.2]
  · intro hu'
    obtain ⟨h1, p, hp, h2, h3, h4⟩ := h.gb.up hu'
    refine ⟨by rw [hid.2.2]; exact h1, p, hp, h2, h3, ?_⟩
    rw [h4]
    unfold first
    rw [hid.1, hid.2.2]
theorem OneInv.tick {a b : Ses} {sa sb : List Pkt} {N : Int} (h : OneInv a b sa sb N) (hN : N < 536870911) (now : Int) : OneInv (a.tick now).1 b sa sb (N + 1) := by
  have ok := h.ga.ok.tick now
  have hl := h.ga.life
  unfold Ses.tick at ok ⊢
  split at ok
  · rename_i hm; rw [if_pos hm]; exact h.mono (by omega)
  · rename_i hm
    rw [if_neg hm]
    split at ok
    · rename_i h2
      rw [if_pos h2]
      refine h.quiet ok ?_ ?_ (by omega) rfl ⟨rfl, rfl, rfl⟩ ?_ (fun e => by cases e)
      · show a.life ≤ min (a.life + 1) 536870912; omega
      · show min (a.life + 1) 536870912 ≤ N + 1; omega
      · intro e
        have e : min (a.life + 1) 536870912 = a.life := e
        omega
    · rename_i h2
      rw [if_neg h2]
      split at ok
      · rename_i h3
        rw [if_pos h3]
        refine h.quiet ok ?_ ?_ (by omega) rfl ⟨rfl, rfl, rfl⟩ ?_ (fun e => by cases e)
        · show a.life ≤ min (a.life + 1) 536870912; omega
        · show min (a.life + 1) 536870912 ≤ N + 1; omega
        · intro e
          have e : min (a.life + 1) 536870912 = a.life := e
          omega
      · rename_i h3; rw [if_neg h3]; exact h.mono (by omega)
theorem OneInv.seen {a b : Ses} {sa sb : List Pkt} {N : Int} (h : OneInv a b sa sb N) (now : Int) : OneInv (a.seen now).1 b sa sb (N + 1) := by
  have ok := h.ga.ok.seen now
  have hl := h.ga.life
  unfold Ses.seen at ok ⊢
  split at ok
  · rename_i hm; rw [if_pos hm]
    exact h.quiet ok (Int.le_refl _) (by show a.life ≤ N + 1; omega) (by omega) rfl ⟨rfl, rfl, rfl⟩ (fun _ => rfl) (fun _ => ⟨rfl, rfl, rfl, rfl⟩)
  · rename_i hm; rw [if_neg hm]; exact h.mono (by omega)
theorem OneInv.alive {a b : Ses} {sa sb : List Pkt} {N : Int} (h : OneInv a b sa sb N) (now : Int) : OneInv (a.alive now).1 b sa sb (N + 1) := by
  have ok := h.ga.ok.alive now
  have hl := h.ga.life
  unfold Ses.alive at ok ⊢
  split at ok
  · rename_i hm; rw [if_pos hm]
    exact h.quiet ok (Int.le_refl _) (by show a.life ≤ N + 1; omega) (by omega) rfl ⟨rfl, rfl, rfl⟩ (fun _ => rfl) (fun _ => ⟨rfl, rfl, rfl, rfl⟩)
  · rename_i hm; rw [if_neg hm]; exact h.mono (by omega)

theorem OneInv.take {a b : Ses} {sa sb : List Pkt} {N : Int} (h : OneInv a b sa sb N) (hN : N < 536870911) {p : Pkt} (hp : p ∈ sb) (now : Int) : OneInv (a.take p now).1 b sa sb (N + 1) := by
  have hs := h.gb.said p hp
  have ok := h.ga.ok.take p now
  have hl := h.ga.life
  have hM : OneInv a b sa sb (N + 1) := h.mono (by omega)
  by_cases hm : momentB now = true
  · by_cases he : p.epoch < a.known
    · have e : a.take p now = (a, false, 6) := by unfold Ses.take; rw [hm, hs.ok, if_neg (by simp), if_neg (by simp), if_pos he]
      rw [e]; exact hM
    · have e : a.take p now = if p.ack ≠ (a.heard p now).life ∨ (a.heard p now).up = true ∨ (a.heard p now).life = 536870912 then (a.heard p now, false, 0) else (Ses.elect { a.heard p now with up := true } p.note.state, true, 0) := by
        unfold Ses.take; rw [hm, hs.ok, if_neg (by simp), if_neg (by simp), if_neg he]
      -- heard
      have key : ∀ t : Ses, t = a.heard p now → (t.known = p.epoch ∧ t.op = p.note.port ∧ t.id = a.id ∧ t.oid = a.oid ∧ t.prio = a.prio) ∧ ((a.known < p.epoch ∧ a.up = true ∧ t.life = a.life + 1 ∧ t.up = false ∧ t.claim = a.role) ∨ (¬ (a.known < p.epoch ∧ a.up = true) ∧ t.life = a.life ∧ t.up = a.up ∧ t.claim = a.claim ∧ t.role = a.role)) := by
        rintro t rfl
        unfold Ses.heard
        dsimp only
        by_cases hc : a.known < p.epoch ∧ a.up = true
        · rw [if_pos hc]
          refine ⟨⟨rfl, rfl, rfl, rfl, rfl⟩, .inl ⟨hc.1, hc.2, ?_, rfl, rfl⟩⟩
          show min (a.life + 1) 536870912 = a.life + 1
          omega
        · rw [if_neg hc]
          exact ⟨⟨rfl, rfl, rfl, rfl, rfl⟩, .inr ⟨hc, rfl, rfl, rfl, rfl⟩⟩
      obtain ⟨⟨k1, k2, k3, k4, k5⟩, kc⟩ := key _ rfl
      generalize a.heard p now = t at *
      have hlife : a.life ≤ t.life ∧ t.life ≤ N + 1 := by rcases kc with ⟨_, _, g, _⟩ | ⟨_, g, _⟩ <;> omega
      have hclaim : t.life = a.life → t.claim = a.claim := by
        intro g
        rcases kc with ⟨_, _, g1, _⟩ | ⟨_, _, _, g2, _⟩
        · omega
        · exact g2
      have hsaid : ∀ q ∈ sa, SaidBy t q := by
        intro q hq
        have hqs := h.ga.said q hq
        refine ⟨hqs.ok, by have := hqs.ep; omega, by have := hqs.ack; omega, by rw [k5]; exact hqs.port, fun e => ?_, hqs.ba, hqs.bl⟩
        have := hqs.ep
        have e1 : t.life = a.life := by omega
        rw [hclaim e1]; exact hqs.st (by omega)
      have hbup : ∀ f : Ses, f.id = a.id → f.prio = a.prio → (b.up = true → b.op = f.prio ∧ ∃ q ∈ sa, q.epoch = b.known ∧ q.ack = b.life ∧ b.role = (if electB b.claim q.note.state (first b f) then 2 else 1)) := by
        intro f f1 f2 hu
        obtain ⟨h1, q, hq, h2, h3, h4⟩ := h.gb.up hu
        refine ⟨by rw [f2]; exact h1, q, hq, h2, h3, ?_⟩
        rw [h4]; unfold first; rw [f1, f2]
      have hfirst : ∀ f : Ses, f.id = a.id → f.prio = a.prio → first f b = first a b := by
        intro f f1 f2; unfold first; rw [f1, f2]
      rw [e] at ok ⊢
      split at ok
      · rename_i hc
        rw [if_pos hc]
        refine ⟨⟨ok, hlife.2, by show t.known ≤ b.life; rw [k1]; exact hs.ep, by show t.oid = b.id; rw [k4]; exact h.ga.oid, hsaid, ?_⟩, ⟨h.gb.ok, hM.gb.life, by have := h.gb.known; show b.known ≤ t.life; omega, by show b.oid = t.id; rw [k3]; exact h.gb.oid, h.gb.said, hbup t k3 k5⟩, by show t.id ≠ b.id; rw [k3]; exact h.ne, hM.la, hM.lb⟩
        intro hu
        have hu : t.up = true := hu
        rcases kc with ⟨_, _, _, g, _⟩ | ⟨g0, g1, g2, g3, g4⟩
        · rw [g] at hu; cases hu
        · rw [g2] at hu
          obtain ⟨h1, q, hq, h2, h3, h4⟩ := h.ga.up hu
          have hke : p.epoch = a.known := by
            by_cases hlt : a.known < p.epoch
            · exact absurd ⟨hlt, hu⟩ g0
            · omega
          refine ⟨by show t.op = b.prio; rw [k2]; exact hs.port, q, hq, by show q.epoch = t.known; omega, by show q.ack = t.life; omega, ?_⟩
          show t.role = _
          rw [g4, h4, g3, hfirst t k3 k5]
      · rename_i hc
        rw [if_neg hc]
        simp only [not_or, Decidable.not_not] at hc
        refine ⟨⟨ok, hlife.2, by show t.known ≤ b.life; rw [k1]; exact hs.ep, by show t.oid = b.id; rw [k4]; exact h.ga.oid, fun q hq => ?_, ?_⟩, ⟨h.gb.ok, hM.gb.life, by have := h.gb.known; show b.known ≤ t.life; omega, by show b.oid = t.id; rw [k3]; exact h.gb.oid, h.gb.said, hbup _ k3 k5⟩, by show t.id ≠ b.id; rw [k3]; exact h.ne, hM.la, hM.lb⟩
        · have := hsaid q hq
          exact ⟨this.ok, this.ep, this.ack, this.port, this.st, this.ba, this.bl⟩
        · intro _
          refine ⟨by show t.op = b.prio; rw [k2]; exact hs.port, p, hp, by show p.epoch = t.known; omega, hc.1, ?_⟩
          show (if electB t.claim p.note.state (aheadB t.prio t.id t.op t.oid) then (2 : Int) else 1) = if electB t.claim p.note.state (aheadB t.prio t.id b.prio b.id) then 2 else 1
          have e1 : t.op = b.prio := by rw [k2]; exact hs.port
          have e2 : t.oid = b.id := by rw [k4]; exact h.ga.oid
          rw [e1, e2]
  · have e : a.take p now = (a, false, 1) := by
      have hm' : momentB now = false := by simpa using hm
      unfold Ses.take; rw [hm']; rfl
    rw [e]; exact hM

/-- what the law asks behind each step. -/
theorem OneInv.both {a b : Ses} {sa sb : List Pkt} {N : Int} (h : OneInv a b sa sb N) (ua : a.up = true) (ub : b.up = true) : (a.role = 2 ∧ b.role = 1) ∨ (a.role = 1 ∧ b.role = 2) := by
  obtain ⟨_, p, hp, p1, p2, p3⟩ := h.ga.up ua
  obtain ⟨_, q, hq, q1, q2, q3⟩ := h.gb.up ub
  have hps := h.gb.said p hp
  have hqs := h.ga.said q hq
  have k1 := h.ga.known
  have k2 := h.gb.known
  have a1 := hps.ack
  have a2 := hqs.ack
  have e1 : b.known = a.life := by omega
  have e2 : a.known = b.life := by omega
  rw [hps.st (by omega)] at p3
  rw [hqs.st (by omega)] at q3
  obtain ⟨r1, r2, r3⟩ := roles_apart (a := a) (b := b) h.ne
  have ea : a.role = roleOf a b := p3
  have eb : b.role = roleOf b a := q3
  rw [ea, eb]
  rcases r2 with r2 | r2 <;> rcases r3 with r3 | r3 <;> rw [r2, r3] at r1 ⊢ <;> simp at r1 ⊢
theorem one_start {p0 p1 : Int} (h0 : newB 0 p0 1 = true) (h1 : newB 1 p1 1 = true) : OneInv (Ses.new 0 p0 1) (Ses.new 1 p1 1) [] [] 1 := by
  refine ⟨⟨Ses.new_ok h0, by show (1 : Int) ≤ 1; omega, by show (0 : Int) ≤ 1; omega, rfl, fun p hp => (by cases hp), fun h => (by cases h)⟩, ⟨Ses.new_ok h1, by show (1 : Int) ≤ 1; omega, by show (0 : Int) ≤ 1; omega, rfl, fun p hp => (by cases hp), fun h => (by cases h)⟩, by show (0 : Int) ≠ 1; decide, by simp, by simp⟩
end Go.Proofs.YtpglhnbekpafeaaDoor
