/-
  session.hello, New, Hello, Tick, Take.
-/
import Derived.Test.YtpglhnbekpafeaaDoorVa
import Derived.Test.YtpglhnbekpafeaaDoorEd
namespace Go.Proofs.YtpglhnbekpafeaaDoor
set_option linter.unusedVariables false
set_option linter.unusedSimpArgs false
open Go Go.RowKit

theorem exec_loadPkt (ρ d x ty pos af g w) : (execOp ρ ⟨d, .load 36 x, ty, pos, af, g⟩).run Tryd.prog w = ldRow Tryd.prog 36 14 (ρ x) w :=
  exec_load_row (fun w => by simp [go_sem]) (fun w => by simp [go_sem]) ρ d x ty pos af g w
theorem exec_storePkt (ρ d x y ty pos af g w) : (execOp ρ ⟨d, .store 36 x y, ty, pos, af, g⟩).run Tryd.prog w = stRow Tryd.prog 36 14 (ρ x) (ρ y) w :=
  exec_store_row (fun w => by simp [go_sem]) ρ d x y ty pos af g w
attribute [local go_sem ↓] exec_loadNote exec_storeNote exec_loadPkt exec_storePkt
attribute [local go_sem] ldRow_ptr ldFin_some cellsAt_succ cellsAt_zero allSome_cons allSome_nil stRow_ptr stFin_true allOne_cons allOne_nil there_succ there_zero frozens_succ frozens_zero one_int one_bool one_slice putCells_alloc_at putCells_alloc_old over_all

/-- where a packet's body lies. -/
def PktIn (w : World) (p : Pkt) : Prop := (∃ bs, Src w p.note.ba p.note.bl bs) ∧ ∀ x, p.note.ba = some x → x.block < w.heap.size
theorem PktIn.step {w w' : World} {p : Pkt} (h : PktIn w p) (hB : Below w.heap.size w w') : PktIn w' p := by
  obtain ⟨⟨bs, h1⟩, h2⟩ := h
  exact ⟨⟨bs, h1.step hB⟩, fun x hx => Nat.lt_of_lt_of_le (h2 x hx) hB.size⟩
theorem encode_err (p : Pkt) (w : World) (hl : HasLaid w) (hp : PktIn w p) : Calls Tryd.prog 30 #[p.val] w fun e w' => ∃ v, e = .returned (.tuple #[v, iV (if encB p then 0 else 1)]) ∧ Below w.heap.size w w' := by
  obtain ⟨⟨bs, h1⟩, h2⟩ := hp
  refine (encode_any p bs w hl h1 h2).mono ?_
  rintro e w' ⟨v, rfl, _, hB⟩
  exact ⟨v, rfl, hB⟩
theorem pkt_cells {w : World} {b : Nat} {p : Pkt} (h : w.heap[b]? = some (.cells (pktList p).toArray 36 (0, 0))) : w.cell? ⟨b, 0, none⟩ = some (iV p.epoch) ∧ w.cell? ⟨b, 1, none⟩ = some (iV p.seq) ∧ w.cell? ⟨b, 2, none⟩ = some (iV p.ack) ∧ w.cell? ⟨b, 3, none⟩ = some (iV p.note.kind) ∧ w.cell? ⟨b, 11, none⟩ = some (iV p.note.port) ∧ w.cell? ⟨b, 12, none⟩ = some (iV p.note.state) := by
  refine ⟨?_, ?_, ?_, ?_, ?_, ?_⟩ <;> rw [cell_of_block h] <;> rfl

set_option maxHeartbeats 2000000 in
theorem helloIs_any (p : Pkt) (w : World) (hl : HasLaid w) (hp : PktIn w p) : Calls Tryd.prog 23 #[p.val] w fun e w' => e = .returned (.bool (helloB p)) ∧ Below w.heap.size w w' := by
  have hb0 : Below w.heap.size w (w.alloc (.cells (pktList p).toArray 36)) := (Below.refl _ _).alloc (Nat.le_refl _) _
  have He := Lib.hid (encode_err p _ (hl.below hb0 hl.1) (hp.step hb0))
  have Hb0 := Lib.hid hb0
  have hbox : (w.alloc (.cells (pktList p).toArray 36)).heap[w.heap.size]? = some (.cells (pktList p).toArray 36 (0, 0)) := heap_alloc_new w _
  have Hbox := Lib.hid hbox
  clear hl hp hb0 hbox
  obtain ⟨s0, h0⟩ : ∃ x, decide (p.seq = 0) = x := ⟨_, rfl⟩
  obtain ⟨k6, h6⟩ : ∃ x, decide (p.note.kind = 6) = x := ⟨_, rfl⟩
  obtain ⟨e1, h1⟩ : ∃ x, decide (1 ≤ p.epoch) = x := ⟨_, rfl⟩
  obtain ⟨e2, h2⟩ : ∃ x, decide (p.epoch ≤ 536870912) = x := ⟨_, rfl⟩
  have hr : helloB p = (encB p && s0 && k6 && e1 && e2) := by unfold helloB; rw [h0, h6, h1, h2]
  have Hr := Lib.hid hr
  have b0 : (p.seq == 0) = s0 := by rw [← h0]; rfl
  have b6 : (p.note.kind == 6) = k6 := by rw [← h6]; rfl
  clear hr h0 h6
  have fin : ∀ r : Bool, helloB p = r → ∀ w', Below w.heap.size w w' → (Ending.returned (.bool r) = .returned (.bool (helloB p)) ∧ Below w.heap.size w w') := fun r h w' hB => ⟨by rw [h], hB⟩
  have Fin := Lib.hid fin
  clear fin
  go_enter Tryd.func23, Tryd.ntmps23
  go_wp2_with fail
  refine He.out.mono ?_
  rintro e w2 ⟨v, rfl, hB⟩
  have hbx : w2.heap[w.heap.size]? = some (.cells (pktList p).toArray 36 (0, 0)) := by rw [hB.block _ (by simp)]; exact Hbox.out
  obtain ⟨c0, c1, _, c3, _, _⟩ := pkt_cells hbx
  have Hbel := Lib.hid (Hb0.out.trans (hB.mono (by simp)))
  clear hB hbx Hb0 Hbox
  have hr := Hr.out
  clear Hr
  cases hE : encB p
  · rw [hE] at hr
    have Hr := Lib.hid hr
    clear hr hE
    go_wp2_with fail
    go_ret
    exact Fin.out _ (by rw [Hr.out]; simp) _ Hbel.out
  · rw [hE] at hr
    cases s0
    · have Hr := Lib.hid hr
      clear hr hE
      go_wp2_with fail
      go_ret
      exact Fin.out _ (by rw [Hr.out]; simp) _ Hbel.out
    · cases k6
      · have Hr := Lib.hid hr
        clear hr hE
        go_wp2_with fail
        go_ret
        exact Fin.out _ (by rw [Hr.out]; simp) _ Hbel.out
      · cases e1
        · have Hr := Lib.hid hr
          clear hr hE
          go_wp2_with fail
          go_ret
          exact Fin.out _ (by rw [Hr.out]; simp) _ Hbel.out
        · have Hr := Lib.hid hr
          clear hr hE
          cases e2
          all_goals
            go_wp2_with fail
            go_ret
            exact Fin.out _ (by rw [Hr.out]; simp) _ Hbel.out

/-! New -/
def SesNewPost (w : World) (id prio life : Int) (e : Ending) (w' : World) : Prop :=
  ∃ b, e = .returned (.tuple #[.pointer (some ⟨b, 0, none⟩), iV 0]) ∧ w.heap.size ≤ b ∧ SesAt w' b (Ses.new id prio life) ∧ Below w.heap.size w w'
theorem sesNew_ok (id prio life : Int) (w : World) (h : newB id prio life = true) : Calls Tryd.prog 9 #[iV id, iV prio, iV life] w (SesNewPost w id prio life) := by
  have h' := of_decide_eq_true h
  have d1 : decide (id < 0) = false := decide_eq_false (by omega)
  have d2 : decide (1 < id) = false := decide_eq_false (by omega)
  have d3 : decide (prio < 0) = false := decide_eq_false (by omega)
  have d4 : decide (1000 < prio) = false := decide_eq_false (by omega)
  have d5 : decide (life < 1) = false := decide_eq_false (by omega)
  have d6 : decide (536870912 < life) = false := decide_eq_false (by omega)
  have hw : IntKind.i64.wrap (1 - id) = 1 - id := IntWalk.i64_in _ (by omega)
  have Hend := Lib.hid (show SesNewPost w id prio life (.returned (.tuple #[.pointer (some ⟨w.heap.size, 0, none⟩), iV 0])) (w.alloc (.cells (sesList (Ses.new id prio life)).toArray 63)) from ⟨_, rfl, Nat.le_refl _, heap_alloc_new w _, (Below.refl _ _).alloc (Nat.le_refl _) _⟩)
  clear h h'
  go_enter Tryd.func9, Tryd.ntmps9
  go_wp2
  go_ret2
  exact Hend.out
theorem sesNew_no (id prio life : Int) (w : World) (h : newB id prio life = false) : Calls Tryd.prog 9 #[iV id, iV prio, iV life] w fun e w' => e = .returned (.tuple #[.pointer none, iV 1]) ∧ w = w' := by
  have h' := of_decide_eq_false h
  clear h
  by_cases h1 : id < 0
  · have d1 : decide (id < 0) = true := decide_eq_true h1
    clear h' h1
    go_enter Tryd.func9, Tryd.ntmps9
    go_wp2
    go_ret2
    exact ⟨rfl, rfl⟩
  have d1 : decide (id < 0) = false := decide_eq_false h1
  by_cases h2 : 1 < id
  · have d2 : decide (1 < id) = true := decide_eq_true h2
    clear h' h1 h2
    go_enter Tryd.func9, Tryd.ntmps9
    go_wp2
    go_ret2
    exact ⟨rfl, rfl⟩
  have d2 : decide (1 < id) = false := decide_eq_false h2
  by_cases h3 : prio < 0
  · have d3 : decide (prio < 0) = true := decide_eq_true h3
    clear h' h1 h2 h3
    go_enter Tryd.func9, Tryd.ntmps9
    go_wp2
    go_ret2
    exact ⟨rfl, rfl⟩
  have d3 : decide (prio < 0) = false := decide_eq_false h3
  by_cases h4 : 1000 < prio
  · have d4 : decide (1000 < prio) = true := decide_eq_true h4
    clear h' h1 h2 h3 h4
    go_enter Tryd.func9, Tryd.ntmps9
    go_wp2
    go_ret2
    exact ⟨rfl, rfl⟩
  have d4 : decide (1000 < prio) = false := decide_eq_false h4
  by_cases h5 : life < 1
  · have d5 : decide (life < 1) = true := decide_eq_true h5
    clear h' h1 h2 h3 h4 h5
    go_enter Tryd.func9, Tryd.ntmps9
    go_wp2
    go_ret2
    exact ⟨rfl, rfl⟩
  have d5 : decide (life < 1) = false := decide_eq_false h5
  have d6 : decide (536870912 < life) = true := decide_eq_true (by omega)
  clear h' h1 h2 h3 h4 h5
  go_enter Tryd.func9, Tryd.ntmps9
  go_wp2
  go_ret2
  exact ⟨rfl, rfl⟩

/-! Hello: a packet, whose block is left behind -/
def HelloPost (w : World) (p : Pkt) (e : Ending) (w' : World) : Prop := e = .returned p.val ∧ Below w.heap.size w w'
theorem hello_any (b : Nat) (s : Ses) (w : World) (h : SesAt w b s) : Calls Tryd.prog 11 #[.pointer (some ⟨b, 0, none⟩)] w (HelloPost w s.hello) := by
  obtain ⟨c0, _, _, _, c4, c5, _, _, c8, _, _⟩ := h.cells
  have hlt := h.lt
  clear h
  go_enter Tryd.func11, Tryd.ntmps11
  go_wp2_with fail
  go_region
  go_wp2
  refine bodyPost_ret (v := s.hello.val) (results_row1 (l := pktList s.hello) (n := 14) (a := ⟨w.heap.size, 0, none⟩) rfl rfl (Tryd.isAgg36 _) (Tryd.sizeOf36 _) (allSome_block (heap_putCells_all (heap_alloc_new w _) rfl) rfl)) rfl ⟨rfl, ?_⟩
  exact below_putCells _ _ (Nat.le_refl _) _ _ _ ((Below.refl _ _).alloc (Nat.le_refl _) _).drew

/-! Tick -/
theorem tick_any (b : Nat) (s : Ses) (now : Int) (w : World) (h : SesAt w b s) (ho : SesOk s) : Calls Tryd.prog 15 #[.pointer (some ⟨b, 0, none⟩), iV now] w (TurnPost w b (.tuple #[.bool (s.tick now).2.1, iV (s.tick now).2.2]) (s.tick now).1) := by
  cases hm : momentB now
  · have Hm := Lib.hid (hm ▸ moment_any now w)
    have e : s.tick now = (s, false, 1) := by unfold Ses.tick; rw [hm]; rfl
    rw [e]
    have Hend := Lib.hid (show TurnPost w b (.tuple #[.bool false, iV 1]) s (.returned (.tuple #[.bool false, iV 1])) w from ⟨rfl, h, Off.refl _ _⟩)
    clear h hm e
    go_enter Tryd.func15, Tryd.ntmps15
    go_wp2_with (go_at_call 22; refine Hm.out.mono ?_; rintro e w' ⟨rfl, rfl⟩)
    go_ret2
    exact Hend.out
  · have Hm := Lib.hid (hm ▸ moment_any now w)
    have hin := moment_in hm
    have hli := ho.link
    have hbe := ho.beat
    obtain ⟨_, _, _, _, _, _, c6, c7, _, c9, c10⟩ := h.cells
    have hw1 : IntKind.i64.wrap (now - s.link) = now - s.link := IntWalk.i64_in _ (by omega)
    have hw2 : IntKind.i64.wrap (now - s.beat) = now - s.beat := IntWalk.i64_in _ (by omega)
    have H := Lib.hid h
    have Hl := Lib.hid ho.life
    obtain ⟨df, hdf⟩ : ∃ x, decide (6 ≤ now - s.link) = x := ⟨_, rfl⟩
    obtain ⟨da, hda⟩ : ∃ x, decide (6 ≤ now - s.beat) = x := ⟨_, rfl⟩
    have htick : s.tick now = if df = true ∧ s.up = true then (s.reborn, true, 0) else if df = true ∧ da = true ∧ s.role ≠ 2 then (Ses.reborn { s with role := 2 }, false, 0) else (s, false, 0) := by
      unfold Ses.tick
      rw [hm, if_neg (by simp), ← hdf, ← hda]
      simp only [decide_eq_true_eq]
    rw [htick]
    clear htick hm h ho hin hli hbe
    cases df
    · have e1 : ∀ x y z : Ses × Bool × Int, (if false = true ∧ s.up = true then x else if false = true ∧ da = true ∧ s.role ≠ 2 then y else z) = z := fun x y z => by rw [if_neg (by simp), if_neg (by simp)]
      rw [e1]
      clear e1
      have Hend := Lib.hid (show ∀ n, TurnPost w b (.tuple #[.bool false, iV 0]) s (.returned (.tuple #[.bool false, iV 0])) (w.drewN n) from fun n => ⟨rfl, H.out, (Off.refl _ _).drewN n⟩)
      go_enter Tryd.func15, Tryd.ntmps15
      go_upto_region 3 with (go_at_call 22; refine Hm.out.mono ?_; rintro e w' ⟨rfl, rfl⟩)
      go_quiet (fail)
      go_wp2_with fail
      go_ret2
      exact Hend.out _
    · cases hu : s.up
      · rw [hu] at c6
        have e1 : ∀ x y : Ses × Bool × Int, (if true = true ∧ false = true then x else y) = y := fun x y => if_neg (by simp)
        rw [e1]
        clear e1
        cases da
        · have e2 : ∀ x y : Ses × Bool × Int, (if true = true ∧ false = true ∧ s.role ≠ 2 then x else y) = y := fun x y => if_neg (by simp)
          rw [e2]
          clear e2 hu
          have Hend := Lib.hid (show ∀ n, TurnPost w b (.tuple #[.bool false, iV 0]) s (.returned (.tuple #[.bool false, iV 0])) (w.drewN n) from fun n => ⟨rfl, H.out, (Off.refl _ _).drewN n⟩)
          go_enter Tryd.func15, Tryd.ntmps15
          go_upto_region 3 with (go_at_call 22; refine Hm.out.mono ?_; rintro e w' ⟨rfl, rfl⟩)
          go_quiet (fail)
          go_wp2_with fail
          go_ret2
          exact Hend.out _
        · by_cases hr : s.role = 2
          · have e2 : ∀ x y : Ses × Bool × Int, (if true = true ∧ true = true ∧ s.role ≠ 2 then x else y) = y := fun x y => if_neg (by simp [hr])
            rw [e2]
            clear e2 hu
            have d7 : (s.role != 2) = false := by simp [hr]
            clear hr
            have Hend := Lib.hid (show ∀ n, TurnPost w b (.tuple #[.bool false, iV 0]) s (.returned (.tuple #[.bool false, iV 0])) (w.drewN n) from fun n => ⟨rfl, H.out, (Off.refl _ _).drewN n⟩)
            go_enter Tryd.func15, Tryd.ntmps15
            go_upto_region 3 with (go_at_call 22; refine Hm.out.mono ?_; rintro e w' ⟨rfl, rfl⟩)
            go_quiet (fail)
            go_wp2_with fail
            go_ret2
            exact Hend.out _
          · have e2 : ∀ x y : Ses × Bool × Int, (if true = true ∧ true = true ∧ s.role ≠ 2 then x else y) = x := fun x y => if_pos (by simp [hr])
            rw [e2]
            clear e2 hu
            have d7 : (s.role != 2) = true := by simpa using hr
            clear hr
            obtain ⟨_, _, _, _, f7, _, _, _⟩ := H.out.fz
            have Hre := Lib.hid (fun n => reborn_any b { s with role := 2 } ((w.drewN n).setCell ⟨b, 7, none⟩ (iV 2)) (SesAt.set (s := s) (H.out.step (below_drewN' (Below.refl w.heap.size w) n)) (i := 7) (v := iV 2) rfl) Hl.out)
            go_enter Tryd.func15, Tryd.ntmps15
            go_upto_region 3 with (go_at_call 22; refine Hm.out.mono ?_; rintro e w' ⟨rfl, rfl⟩)
            go_quiet (fail)
            go_wp2_with fail
            refine (Hre.out _).mono ?_
            rintro e w2 ⟨rfl, h2, ho2⟩
            have Hend := Lib.hid (show TurnPost w b (.tuple #[.bool false, iV 0]) (Ses.reborn { s with role := 2 }) (.returned (.tuple #[.bool false, iV 0])) w2 from ⟨rfl, h2, (off_set ((Off.refl _ _).drewN _)).trans ho2⟩)
            clear h2 ho2
            go_wp2_with fail
            go_ret2
            exact Hend.out
      · rw [hu] at c6
        have e1 : ∀ x y : Ses × Bool × Int, (if true = true ∧ true = true then x else y) = x := fun x y => if_pos (by simp)
        rw [e1]
        clear e1 hu
        have Hre := Lib.hid (fun n => reborn_any b s (w.drewN n) (H.out.step (below_drewN' (Below.refl w.heap.size w) n)) Hl.out)
        go_enter Tryd.func15, Tryd.ntmps15
        go_upto_region 3 with (go_at_call 22; refine Hm.out.mono ?_; rintro e w' ⟨rfl, rfl⟩)
        go_quiet (fail)
        go_wp2_with fail
        refine (Hre.out _).mono ?_
        rintro e w2 ⟨rfl, h2, ho2⟩
        have Hend := Lib.hid (show TurnPost w b (.tuple #[.bool true, iV 0]) s.reborn (.returned (.tuple #[.bool true, iV 0])) w2 from ⟨rfl, h2, ((Off.refl _ _).drewN _).trans ho2⟩)
        clear h2 ho2
        go_wp2_with fail
        go_ret2
        exact Hend.out
end Go.Proofs.YtpglhnbekpafeaaDoor
