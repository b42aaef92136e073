/-
  Plain Lean values and functions of the layer session: no program in sight.
-/
import Derived.Test.YtpglhnbekpafeaaDoorSp
namespace Go.Proofs.YtpglhnbekpafeaaDoor
set_option linter.unusedVariables false
set_option linter.unusedSimpArgs false
open Go

/-- a packet. -/
structure Pkt where
  epoch : Int
  seq : Int
  ack : Int
  note : Note
abbrev pktList (p : Pkt) : List Value := [iV p.epoch, iV p.seq, iV p.ack, iV p.note.kind, iV p.note.vlan, bV p.note.mac.a, bV p.note.mac.b, bV p.note.mac.c, bV p.note.mac.d, bV p.note.mac.e, bV p.note.mac.f, iV p.note.port, iV p.note.state, .slice p.note.ba p.note.bl p.note.bc]
abbrev Pkt.val (p : Pkt) : Value := .agg #[iV p.epoch, iV p.seq, iV p.ack, iV p.note.kind, iV p.note.vlan, bV p.note.mac.a, bV p.note.mac.b, bV p.note.mac.c, bV p.note.mac.d, bV p.note.mac.e, bV p.note.mac.f, iV p.note.port, iV p.note.state, .slice p.note.ba p.note.bl p.note.bc]
def numB (n : Int) : Bool := withinB n 0 1073741824
/-- may a packet be? -/
def encB (p : Pkt) : Bool := rightB p.note && numB p.epoch && numB p.seq && numB p.ack
def helloB (p : Pkt) : Bool := encB p && decide (p.seq = 0) && decide (p.note.kind = 6) && decide (1 ≤ p.epoch) && decide (p.epoch ≤ 536870912)
def momentB (n : Int) : Bool := decide (0 ≤ n ∧ n ≤ 1099511627776)

structure Ses where
  prio : Int
  id : Int
  op : Int
  oid : Int
  life : Int
  known : Int
  up : Bool
  role : Int
  claim : Int
  link : Int
  beat : Int
abbrev sesList (s : Ses) : List Value := [iV s.prio, iV s.id, iV s.op, iV s.oid, iV s.life, iV s.known, .bool s.up, iV s.role, iV s.claim, iV s.link, iV s.beat]
/-- the reference's. -/
abbrev refList (s : Ses) : List Value := [iV s.id, iV s.prio, iV s.life, iV s.known, .bool s.up, iV s.role, iV s.claim, iV s.link, iV s.beat]
def aheadB (p i q j : Int) : Bool := if p = q then decide (i < j) else decide (p < q)
def newB (id prio life : Int) : Bool := decide (0 ≤ id ∧ id ≤ 1 ∧ 0 ≤ prio ∧ prio ≤ 1000 ∧ 1 ≤ life ∧ life ≤ 536870912)
def Ses.new (id prio life : Int) : Ses := ⟨prio, id, 0, 1 - id, life, 0, false, 0, 0, 0, 0⟩
def Ses.hello (s : Ses) : Pkt := ⟨s.life, 0, s.known, ⟨6, 0, mac0, s.prio, s.claim, none, 0, 0⟩⟩
def Ses.reborn (s : Ses) : Ses := { s with up := false, claim := s.role, life := min (s.life + 1) 536870912 }
def electB (claim other : Int) (ah : Bool) : Bool := decide (claim > other) || (decide (claim = other) && ah)
def Ses.elect (s : Ses) (other : Int) : Ses := { s with role := if electB s.claim other (aheadB s.prio s.id s.op s.oid) then 2 else 1 }
/-- heard: what comes ahead of the answer. -/
def Ses.heard (s : Ses) (p : Pkt) (now : Int) : Ses :=
  let s1 : Ses := { s with link := now }
  let s2 : Ses := if s.known < p.epoch ∧ s.up = true then s1.reborn else s1
  { s2 with known := p.epoch, op := p.note.port }
def Ses.take (s : Ses) (p : Pkt) (now : Int) : Ses × Bool × Int :=
  if momentB now = false then (s, false, 1)
  else if helloB p = false then (s, false, 2)
  else if p.epoch < s.known then (s, false, 6)
  else
    let t := s.heard p now
    if p.ack ≠ t.life ∨ t.up = true ∨ t.life = 536870912 then (t, false, 0)
    else (Ses.elect { t with up := true } p.note.state, true, 0)
def Ses.seen (s : Ses) (now : Int) : Ses × Int := if momentB now then ({ s with link := now }, 0) else (s, 1)
def Ses.alive (s : Ses) (now : Int) : Ses × Int := if momentB now then ({ s with beat := now }, 0) else (s, 1)
def Ses.tick (s : Ses) (now : Int) : Ses × Bool × Int :=
  if momentB now = false then (s, false, 1)
  else if 6 ≤ now - s.link ∧ s.up = true then (s.reborn, true, 0)
  else if 6 ≤ now - s.link ∧ 6 ≤ now - s.beat ∧ s.role ≠ 2 then (Ses.reborn { s with role := 2 }, false, 0)
  else (s, false, 0)
def Ses.epoch (s : Ses) : Int := if s.up then s.life + s.known else 0

/-- what always holds. -/
structure SesOk (s : Ses) : Prop where
  id : 0 ≤ s.id ∧ s.id ≤ 1
  oid : s.oid = 1 - s.id
  prio : 0 ≤ s.prio ∧ s.prio ≤ 1000
  life : 1 ≤ s.life ∧ s.life ≤ 536870912
  known : 0 ≤ s.known ∧ s.known ≤ 536870912
  op : 0 ≤ s.op ∧ s.op ≤ 1000
  role : 0 ≤ s.role ∧ s.role ≤ 2
  claim : 0 ≤ s.claim ∧ s.claim ≤ 2
  link : 0 ≤ s.link ∧ s.link ≤ 1099511627776
  beat : 0 ≤ s.beat ∧ s.beat ≤ 1099511627776
  upl : s.up = true → s.life < 536870912 ∧ 1 ≤ s.role

theorem Ses.new_ok {id prio life : Int} (h : newB id prio life = true) : SesOk (Ses.new id prio life) := by
  have h := of_decide_eq_true h
  refine ⟨⟨h.1, h.2.1⟩, rfl, ⟨h.2.2.1, h.2.2.2.1⟩, ⟨h.2.2.2.2.1, h.2.2.2.2.2⟩, ?_, ?_, ?_, ?_, ?_, ?_, fun h => by cases h⟩ <;> (show (0 : Int) ≤ 0 ∧ (0 : Int) ≤ _; omega)
theorem SesOk.reborn {s : Ses} (h : SesOk s) : SesOk s.reborn :=
  ⟨h.id, h.oid, h.prio, by have := h.life; show 1 ≤ min (s.life + 1) 536870912 ∧ min (s.life + 1) 536870912 ≤ 536870912; omega, h.known, h.op, h.role, h.role, h.link, h.beat, fun h => by cases h⟩
theorem hello_in {p : Pkt} (h : helloB p = true) : (1 ≤ p.epoch ∧ p.epoch ≤ 536870912) ∧ (0 ≤ p.note.port ∧ p.note.port ≤ 1000) ∧ (0 ≤ p.note.state ∧ p.note.state ≤ 2) ∧ (0 ≤ p.ack ∧ p.ack ≤ 1073741824) ∧ p.seq = 0 ∧ p.note.kind = 6 := by
  unfold helloB encB at h
  simp only [Bool.and_eq_true, decide_eq_true_eq] at h
  obtain ⟨⟨⟨⟨⟨⟨⟨hr, _⟩, _⟩, ha⟩, hs⟩, hk⟩, h1⟩, h2⟩ := h
  have ha : 0 ≤ p.ack ∧ p.ack ≤ 1073741824 := of_decide_eq_true ha
  unfold rightB at hr
  simp only [Bool.and_eq_true] at hr
  obtain ⟨⟨⟨⟨_, _⟩, hp⟩, hst⟩, _⟩ := hr
  rw [hk] at hp hst
  have hp : 0 ≤ p.note.port ∧ p.note.port ≤ 1000 := of_decide_eq_true hp
  have hst : 0 ≤ p.note.state ∧ p.note.state ≤ 2 := of_decide_eq_true hst
  exact ⟨⟨h1, h2⟩, hp, hst, ha, hs, hk⟩
theorem moment_in {n : Int} (h : momentB n = true) : 0 ≤ n ∧ n ≤ 1099511627776 := of_decide_eq_true h
theorem SesOk.heard {s : Ses} (h : SesOk s) {p : Pkt} {now : Int} (hp : helloB p = true) (hn : momentB now = true) : SesOk (s.heard p now) := by
  obtain ⟨he, hpo, _⟩ := hello_in hp
  have hm := moment_in hn
  have h1 : SesOk { s with link := now } := ⟨h.id, h.oid, h.prio, h.life, h.known, h.op, h.role, h.claim, hm, h.beat, h.upl⟩
  unfold Ses.heard
  dsimp only
  split
  · have h2 := h1.reborn
    exact ⟨h2.id, h2.oid, h2.prio, h2.life, ⟨by show 0 ≤ p.epoch; omega, by show p.epoch ≤ _; omega⟩, hpo, h2.role, h2.claim, h2.link, h2.beat, h2.upl⟩
  · exact ⟨h1.id, h1.oid, h1.prio, h1.life, ⟨by show 0 ≤ p.epoch; omega, by show p.epoch ≤ _; omega⟩, hpo, h1.role, h1.claim, h1.link, h1.beat, h1.upl⟩
theorem SesOk.take {s : Ses} (h : SesOk s) (p : Pkt) (now : Int) : SesOk (s.take p now).1 := by
  unfold Ses.take
  split
  · exact h
  · rename_i hm
    split
    · exact h
    · rename_i hh
      split
      · exact h
      · have ht := h.heard (p := p) (now := now) (by simpa using hh) (by simpa using hm)
        dsimp only
        split
        · exact ht
        · rename_i hc
          simp only [not_or, Decidable.not_not] at hc
          refine ⟨ht.id, ht.oid, ht.prio, ht.life, ht.known, ht.op, ?_, ht.claim, ht.link, ht.beat, fun _ => ⟨?_, ?_⟩⟩
          · show 0 ≤ (if _ then (2 : Int) else 1) ∧ (if _ then (2 : Int) else 1) ≤ 2
            split <;> omega
          · have := ht.life; show (s.heard p now).life < _; omega
          · show 1 ≤ (if _ then (2 : Int) else 1)
            split <;> omega
theorem SesOk.seen {s : Ses} (h : SesOk s) (now : Int) : SesOk (s.seen now).1 := by
  unfold Ses.seen
  split
  · rename_i hm; exact ⟨h.id, h.oid, h.prio, h.life, h.known, h.op, h.role, h.claim, moment_in hm, h.beat, h.upl⟩
  · exact h
theorem SesOk.alive {s : Ses} (h : SesOk s) (now : Int) : SesOk (s.alive now).1 := by
  unfold Ses.alive
  split
  · rename_i hm; exact ⟨h.id, h.oid, h.prio, h.life, h.known, h.op, h.role, h.claim, h.link, moment_in hm, h.upl⟩
  · exact h
theorem SesOk.tick {s : Ses} (h : SesOk s) (now : Int) : SesOk (s.tick now).1 := by
  unfold Ses.tick
  split
  · exact h
  · split
    · exact h.reborn
    · split
      · exact SesOk.reborn ⟨h.id, h.oid, h.prio, h.life, h.known, h.op, by show (0 : Int) ≤ 2 ∧ (2 : Int) ≤ 2; omega, h.claim, h.link, h.beat, fun hu => ⟨(h.upl hu).1, by show (1 : Int) ≤ 2; omega⟩⟩
      · exact h
end Go.Proofs.YtpglhnbekpafeaaDoor
