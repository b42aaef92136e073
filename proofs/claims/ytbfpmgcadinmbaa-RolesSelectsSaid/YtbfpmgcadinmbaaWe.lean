/-
  roles.fair: what is wrong with ports, told by a map of the numbers that were seen.
-/
import Derived.Test.YtbfpmgcadinmbaaWd
import Derived.Maps.Own
import Derived.Maps.OwnOps
import Derived.Maps.OwnSet
import Derived.Maps.Views
namespace Go.Proofs.Ytbfpmgcadinmbaa
set_option linter.unusedVariables false
set_option linter.unusedSimpArgs false
open Go Go.RowKit Go.Maps
attribute [local go_sem ↓] exec_loadVec exec_storeVec exec_loadHeard exec_storeHeard
attribute [local go_sem] ldRow_ptr ldFin_some cellsAt_succ cellsAt_zero allSome_cons allSome_nil stRow_ptr stFin_true allOne_cons allOne_nil there_succ there_zero frozens_succ frozens_zero one_int one_bool putCells_alloc_at putCells_alloc_old over_all

theorem keyedInt : Keyed Try.prog 3 := int_keyed Try.underlying3
def pLit (h : Heard) : Lit := .int .i64 h.port
def trueD : DataW Unit := .lit (.bool true)
def portsD (l : List Heard) : DataW Unit := setOf trueD (l.map pLit)

theorem key_lits (l : List Heard) : ∀ x ∈ l.map pLit, WideAt.IsKeyLit x := by
  intro x hx
  obtain ⟨h, _, rfl⟩ := List.mem_map.1 hx
  exact trivial

theorem addKey_nodup : ∀ (l : List Heard) (acc : List Heard), (acc.map Heard.port).Nodup →
    ((l.map pLit).foldl addKey (acc.map pLit)).length ≤ acc.length + l.length ∧
    (((acc ++ l).map Heard.port).Nodup → ((l.map pLit).foldl addKey (acc.map pLit)).length = acc.length + l.length) ∧
    (¬ ((acc ++ l).map Heard.port).Nodup → ((l.map pLit).foldl addKey (acc.map pLit)).length < acc.length + l.length) := by
  intro l
  induction l with
  | nil => intro acc h; refine ⟨by simp, fun _ => by simp, fun h' => absurd (by simpa using h) h'⟩
  | cons x r ih =>
    intro acc hacc
    simp only [List.map_cons, List.foldl_cons]
    by_cases hx : x.port ∈ acc.map Heard.port
    · have e : addKey (acc.map pLit) (pLit x) = acc.map pLit := by
        unfold addKey; rw [if_pos]
        obtain ⟨y, hy, he⟩ := List.mem_map.1 hx
        rw [List.any_eq_true]
        refine ⟨pLit y, List.mem_map.2 ⟨y, hy, rfl⟩, ?_⟩
        exact (WideAt.sameKey_iff (a := pLit y) (b := pLit x) trivial).2 (by unfold pLit; rw [he])
      rw [e]
      obtain ⟨h1, _, _⟩ := ih acc hacc
      refine ⟨by simp only [List.length_cons]; omega, fun hd => ?_, fun _ => by simp only [List.length_cons]; omega⟩
      exfalso
      rw [List.map_append, List.nodup_append] at hd
      exact hd.2.2 _ hx _ (by simp) rfl
    · have e : addKey (acc.map pLit) (pLit x) = (acc ++ [x]).map pLit := by
        unfold addKey; rw [if_neg, List.map_append]; rfl
        intro h
        obtain ⟨y', hy', hs⟩ := List.any_eq_true.1 h
        obtain ⟨y, hy, rfl⟩ := List.mem_map.1 hy'
        have := (WideAt.sameKey_iff (a := pLit y) (b := pLit x) trivial).1 hs
        unfold pLit at this
        injection this with _ hp
        exact hx (List.mem_map.2 ⟨y, hy, hp⟩)
      rw [e]
      have hacc' : ((acc ++ [x]).map Heard.port).Nodup := by
        rw [List.map_append, List.nodup_append]
        refine ⟨hacc, by simp, ?_⟩
        intro a ha b hb
        simp at hb; subst hb
        intro e; subst e; exact hx ha
      obtain ⟨h1, h2, h3⟩ := ih (acc ++ [x]) hacc'
      simp only [List.length_append, List.length_singleton, List.append_assoc, List.singleton_append, List.length_cons, List.length_nil] at *
      exact ⟨by omega, fun h => by have := h2 h; omega, fun h => by have := h3 h; omega⟩

theorem size_portsD (l : List Heard) : Maps.size (portsD l) ≤ l.length ∧ ((l.map Heard.port).Nodup → Maps.size (portsD l) = l.length) ∧ (¬ (l.map Heard.port).Nodup → Maps.size (portsD l) < l.length) := by
  unfold portsD
  rw [size_setOf _ _ (key_lits l)]
  have := addKey_nodup l [] (by simp)
  simpa using this

theorem portsD_snoc (l : List Heard) (h : Heard) : portsD (l ++ [h]) = (portsD l).put (pLit h) trueD := by
  unfold portsD; rw [List.map_append, List.map_singleton, setOf_snoc]

theorem take_snoc' (l : List Heard) (k : Nat) (h : Heard) (hk : l[k]? = some h) : l.take (k + 1) = l.take k ++ [h] := by
  rw [List.take_add_one, hk]; rfl
theorem good_snoc (l : List Heard) (k : Nat) (h : Heard) (hk : l[k]? = some h) (hg : ∀ x ∈ l.take k, badPort x = false) (hb : badPort h = false) : ∀ x ∈ l.take (k + 1), badPort x = false := by
  intro x hx
  rw [take_snoc' l k h hk] at hx
  rcases List.mem_append.1 hx with h' | h'
  · exact hg x h'
  · simp at h'; rw [h']; exact hb

def FairRel (w : World) (l : List Heard) (n : Nat) (i : Value) (wr : World) : Prop :=
  ∃ k : Nat, k ≤ n ∧ i = iV k ∧ (∀ h ∈ l.take k, badPort h = false) ∧ Below w.heap.size w wr ∧ w.heap.size < wr.heap.size ∧ wr.ownsMap Try.prog 3 (plainElem Try.prog 4) w.heap.size k (portsD (l.take k))

theorem badPort_false (h : Heard) (hb : badPort h = false) : 1 ≤ h.port ∧ h.port ≤ 65535 ∧ 1 ≤ h.cost ∧ h.cost ≤ 200000000 := by
  unfold badPort at hb; rw [decide_eq_false_iff_not] at hb; omega

theorem fairN_bad (l : List Heard) (k : Nat) (h : Heard) (hk : l[k]? = some h) (hb : badPort h = true) : fairN l = 1 := by
  unfold fairN
  split
  · rfl
  · rw [if_pos]
    exact List.any_eq_true.2 ⟨h, List.mem_of_getElem? hk, hb⟩

theorem fairN_end (l : List Heard) (hn : l.length ≤ 64) (hg : ∀ h ∈ l, badPort h = false) : fairN l = if (l.map Heard.port).Nodup then 0 else 5 := by
  unfold fairN
  rw [if_neg (by omega), if_neg]
  intro h
  obtain ⟨x, hx, hb⟩ := List.any_eq_true.1 h
  rw [hg x hx] at hb; cases hb

theorem badPort_mk (h : Heard) (hb : h.port < 1 ∨ 65535 < h.port ∨ h.cost < 1 ∨ 200000000 < h.cost) : badPort h = true := by
  unfold badPort; exact decide_eq_true hb

theorem wf_port (p : Int) (h1 : 1 ≤ p) (h2 : p ≤ 65535) : (Lit.int .i64 p).wf = true := by
  have : (IntKind.i64).min = -9223372036854775808 := rfl
  simp [Lit.wf]; omega

set_option maxHeartbeats 1000000 in
theorem fair_many (a : Option Addr) (n cap : Nat) (w : World) (hn : 64 < n) :
    Calls Try.prog 19 #[.slice a n cap] w fun e w' => e = .returned (iV 1) ∧ Below w.heap.size w w' := by
  have hmm := @run_makeMap Try.prog
  go_enter Try.func19, Try.ntmps19
  go_wp2
  go_ret
  exact ⟨rfl, (Below.refl _ _).alloc (Nat.le_refl _) _⟩

set_option maxHeartbeats 1000000 in
theorem fair_few (a : Option Addr) (b off n cap : Nat) (l : List Heard) (w : World) (hn0 : n = l.length) (hn : n ≤ 64) (hb : b < w.heap.size) (ha : n ≠ 0 → a = some ⟨b, off, none⟩) (hc : HeardsAt w b off l) :
    Calls Try.prog 19 #[.slice a n cap] w fun e w' => e = .returned (iV (fairN l)) ∧ Below w.heap.size w w' := by
  have hmm := @run_makeMap Try.prog
  have hd : decide ((64 : Int) < (n : Int)) = false := by rw [decide_eq_false_iff_not]; omega
  have Hn := Lib.hid hn0; clear hn0
  have Ha := Lib.hid ha; clear ha
  have Hc := Lib.hid hc; clear hc
  go_enter Try.func19, Try.ntmps19
  go_wp2
  go_loopw [12] (fun i wr => FairRel w l n i wr) (fun i _ => n - (intOf i).toNat)
  case atStart => exact ⟨0, Nat.zero_le _, rfl, by simp, (Below.refl _ _).alloc (Nat.le_refl _) _, by simp, World.ownsMap_made _ _ _ _⟩
  case round =>
    obtain ⟨k, hk, rfl, hgood, hbel, hsz, hown⟩ := hrel
    have Hgood := Lib.hid hgood; clear hgood
    have Hown := Lib.hid hown; clear hown
    have Hbel := Lib.hid hbel; clear hbel
    by_cases hlt : k < n
    · obtain rfl := Ha.out (by omega)
      have hlen : k < l.length := by rw [← Hn.out]; exact hlt
      obtain ⟨h, hh⟩ : ∃ h, l[k]? = some h := ⟨l[k], List.getElem?_eq_getElem hlen⟩
      have Hh := Lib.hid hh; clear hh hlen
      obtain ⟨c0, c1, c2, c3, c4, c5, c6, c7, c8, c9, c10, c11, c12, c13, c14, c15, c16, c17, c18, c19, c20⟩ := HeardsAt.cells (HeardsAt.mono Hc.out (fun o => Hbel.out.cell (p := ⟨b, o, none⟩) hb)) Hh.out
      by_cases p1 : h.port < 1
      · have d1 : decide (h.port < 1) = true := decide_eq_true p1
        have hf : fairN l = 1 := fairN_bad l k h Hh.out (badPort_mk h (by omega))
        have Hf := Lib.hid hf; clear hf
        go_wp2
        go_ret
        exact ⟨by rw [Hf.out]; rfl, Hbel.out.alloc (Nat.le_of_lt hsz) _⟩
      · have d1 : decide (h.port < 1) = false := decide_eq_false p1
        by_cases p2 : 65535 < h.port
        · have d2 : decide (65535 < h.port) = true := decide_eq_true p2
          have hf : fairN l = 1 := fairN_bad l k h Hh.out (badPort_mk h (by omega))
          have Hf := Lib.hid hf; clear hf
          go_wp2
          go_ret
          exact ⟨by rw [Hf.out]; rfl, Hbel.out.alloc (Nat.le_of_lt hsz) _⟩
        · have d2 : decide (65535 < h.port) = false := decide_eq_false p2
          by_cases p3 : h.cost < 1
          · have d3 : decide (h.cost < 1) = true := decide_eq_true p3
            have hf : fairN l = 1 := fairN_bad l k h Hh.out (badPort_mk h (by omega))
            have Hf := Lib.hid hf; clear hf
            go_wp2
            go_ret
            exact ⟨by rw [Hf.out]; rfl, Hbel.out.alloc (Nat.le_of_lt hsz) _⟩
          · have d3 : decide (h.cost < 1) = false := decide_eq_false p3
            by_cases p4 : 200000000 < h.cost
            · have d4 : decide (200000000 < h.cost) = true := decide_eq_true p4
              have hf : fairN l = 1 := fairN_bad l k h Hh.out (badPort_mk h (by omega))
              have Hf := Lib.hid hf; clear hf
              go_wp2
              go_ret
              exact ⟨by rw [Hf.out]; rfl, Hbel.out.alloc (Nat.le_of_lt hsz) _⟩
            · have d4 : decide (200000000 < h.cost) = false := decide_eq_false p4
              have hown1 := Hown.out
              have hgb : badPort h = false := by rw [Bool.eq_false_iff]; intro hb'; unfold badPort at hb'; have := of_decide_eq_true hb'; omega
              have Hgb := Lib.hid hgb; clear hgb
              have hown2 : (wr.alloc (.cells (heardList h).toArray 38)).ownsMap Try.prog 3 (plainElem Try.prog 4) w.heap.size k (portsD (l.take k)) := hown1.alloc _
              clear hown1
              have Hwf := Lib.hid (wf_port h.port (by omega) (by omega))
              clear p1 p2 p3 p4
              go_wp2_with (at_mapUpdate; refine wpList_mapUpdate_own _ rfl _ _ _ 52 rfl 3 4 keyedInt Try.underlying52 _ w.heap.size k _ rfl hown2 (by unfold maxLen; omega) _ _ _ rfl rfl (keyOf_int_mk Try.underlying3 Hwf.out) _ [] (plainElem_bool Try.underlying4 true) ?_; intro w1 hown3 hgrow)
              go_roundw
              case rel => exact ⟨k + 1, by omega, by go_num, good_snoc l k h Hh.out Hgood.out Hgb.out, (Hbel.out.alloc (Nat.le_of_lt hsz) _).grown hgrow (by simp; omega) (fun _ e => by injection e with e; omega), by have := hgrow.size; simp at this; omega, by rw [take_snoc' l k h Hh.out, portsD_snoc]; exact hown3⟩
              case measure => simp [intOf]; omega
    · have hkn : k = n := by omega
      have Hkn := Lib.hid hkn; clear hkn
      have e1 : l.take k = l := List.take_of_length_le (by have := Hn.out; have := Hkn.out; omega)
      have hown1 := Hown.out
      have hgood1 := Hgood.out
      rw [e1] at hown1 hgood1
      obtain ⟨s1, s2, s3⟩ := size_portsD l
      have hf := fairN_end l (by have := Hn.out; omega) hgood1
      clear e1 hgood1 Hgood Hown
      by_cases hnd : (l.map Heard.port).Nodup
      · rw [if_pos hnd] at hf
        have hs : decide (Maps.size (portsD l) < n) = false := by rw [decide_eq_false_iff_not]; have := s2 hnd; have := Hn.out; omega
        have Hf := Lib.hid hf
        clear hf s1 s2 s3 hnd
        generalize portsD l = D at *
        go_wp2_with (at_len; refine wpList_len_own _ rfl _ 52 rfl 3 4 Try.underlying52 _ w.heap.size k _ rfl hown1 ?_)
        go_ret
        exact ⟨by rw [Hf.out]; rfl, Hbel.out⟩
      · rw [if_neg hnd] at hf
        have hs : decide (Maps.size (portsD l) < n) = true := by rw [decide_eq_true_iff]; have := s3 hnd; have := Hn.out; omega
        have Hf := Lib.hid hf
        clear hf s1 s2 s3 hnd
        generalize portsD l = D at *
        go_wp2_with (at_len; refine wpList_len_own _ rfl _ 52 rfl 3 4 Try.underlying52 _ w.heap.size k _ rfl hown1 ?_)
        go_ret
        exact ⟨by rw [Hf.out]; rfl, Hbel.out⟩

theorem fair_any (a : Option Addr) (b off n cap : Nat) (l : List Heard) (w : World) (hn0 : n = l.length) (hb : b < w.heap.size) (ha : n ≠ 0 → a = some ⟨b, off, none⟩) (hc : HeardsAt w b off l) :
    Calls Try.prog 19 #[.slice a n cap] w fun e w' => e = .returned (iV (fairN l)) ∧ Below w.heap.size w w' := by
  rcases Nat.lt_or_ge 64 n with h | h
  · have : fairN l = 1 := by unfold fairN; rw [if_pos (by omega)]
    rw [this]; exact fair_many a n cap w h
  · exact fair_few a b off n cap l w hn0 h hb ha hc
end Go.Proofs.Ytbfpmgcadinmbaa
