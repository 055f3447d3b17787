/-
  Merged texts of one proof: Dp2, Dp3, Dp4, KeM, Ke1, Ke2.
-/
import Derived.Test.YtogcikilphakmaaGreatDoorG06
import Derived.Test.YtogcikilphakmaaGreatDoorG19
import Derived.Test.YtogcikilphakmaaGreatDoorG42

/-
  Package dispatch: May as the model says; core's Step as the model says. Every dispatch.
-/
namespace Go.Proofs.YtogcikilphakmaaGreatDoor
open Go.RowKit Spl

section
variable {w0 w : World} {R : List Pr} {tk : TkM} {S : Hp} {y : DpV} {m : DpM}
theorem dpMay (H : Hd w0 (DpL y tk S m R) w) (hq : m.wq.Ok) (hc : m.co.ce.length ≤ 5000) (hn : m.co.jobs.length ≤ 1000) :
    Calls Tryz.prog 60 #[.pointer (some ⟨y.d, 0, none⟩)] w fun e w' => e = .returned (.tuple #[waitV (m.may.getD .zero), .bool m.may.isSome]) ∧ Hd w0 (DpL y tk S m R) w' := by
  unfold DpM.may
  cases hx : m.wq.next with
  | none => exact dpMayA H hq hx
  | some v =>
    dsimp only
    by_cases h1 : v.level ≤ topI m.co.ce
    · rw [if_pos h1]
      exact dpMayB H hq hc hx h1
    · rw [if_neg h1]
      rcases nil_or_snoc m.co.jobs with hj | ⟨js, j, hj⟩
      · rw [hj]
        exact dpMayC H hq hc hx h1 hj
      · have hl : m.co.jobs.getLast? = some j := by rw [hj]; simp
        have hjl : js.length ≤ 1000 := by rw [hj] at hn; simp at hn; omega
        rw [hl]
        dsimp only
        by_cases h2 : v.level ≤ j.level
        · rw [if_pos h2]
          exact dpMayD H hq hc hx h1 hj hjl h2
        · rw [if_neg h2]
          exact dpMayE H hq hc hx h1 hj hjl h2
/-- What a core must have for a step. -/
def StepOk (tk : TkM) (m : CoM) : Prop := ∀ j, m.jobs.getLast? = some j → ∃ o, j.steps[j.pos]? = some o ∧ (1 ≤ o.kind ∧ o.kind ≤ 9) ∧ j.pos ≤ 100000 ∧ ActOk tk m j o
theorem coStepAll {c : Nat} {x : CoV} {m : CoM} (H : Hd w0 (cel c 112 (coreRow c x.l) :: LkP x S m :: TkP x.t tk S :: ro S :: R) w) (hn : m.jobs.length ≤ 1000) (h : StepOk tk m) :
    Calls Tryz.prog 63 #[.pointer (some ⟨c, 0, none⟩)] w fun e w' => e = .returned (.tuple #[.agg (doneA (((m.step tk).map Prod.fst).getD .zero)), .bool (m.step tk).isSome]) ∧
      Hd w0 (cel c 112 (coreRow c x.l) :: LkP x S (((m.step tk).map Prod.snd).getD m) :: TkP x.t tk S :: ro S :: R) w' := by
  unfold CoM.step
  rcases nil_or_snoc m.jobs with hj | ⟨js, j, hj⟩
  · rw [hj]
    exact coStepNo H hj
  · have hl : m.jobs.getLast? = some j := by rw [hj]; simp
    have hdl : m.jobs.dropLast = js := by rw [hj]; simp
    have hjl : js.length ≤ 1000 := by rw [hj] at hn; simp at hn; omega
    obtain ⟨o, ho, hk, hp, ha⟩ := h j hl
    rw [hl, hdl]
    dsimp only
    rw [ho]
    dsimp only
    by_cases h9 : o.kind = 9
    · rw [if_pos h9]
      exact coStepFin H hj hjl ho h9 hp ha
    · rw [if_neg h9]
      exact coStep H hj hjl ho ⟨hk.1, by omega⟩ hp ha
end
end Go.Proofs.YtogcikilphakmaaGreatDoor

/-
  Package dispatch: Step. Every dispatch.
-/
namespace Go.Proofs.YtogcikilphakmaaGreatDoor
open Go.RowKit Spl

abbrev didA (d : DidM) : Array Value := #[.bool d.started, .int .i64 d.start.job, .int .i64 d.start.task, .int .i64 d.start.level, .bool d.idle, .int .i64 d.done.job, .int .i64 d.done.task, .int .i64 d.done.op.kind, .int .i64 d.done.op.res, .int .i64 d.done.op.n, .int .i64 d.done.op.v, .int .i64 d.done.why, .bool d.done.fin]
/-- What a dispatch must have for a step. -/
structure DpS (tk : TkM) (m : DpM) : Prop where
  t : tk.Ok
  q : m.wq.Ok
  a : m.co.ar.Ok
  c : m.co.ce.length ≤ 5000
  n : m.co.jobs.length ≤ 900
  few : m.co.ar.fr.length ≤ 900
  w : ∀ v, m.may = some v → 0 ≤ v.task ∧ v.task < 64 ∧ 0 ≤ v.job ∧ placeM m.co.jobs v.job = -1 ∧ ∃ r, tk.rows[v.task.toNat]? = some r ∧ m.co.ar.openE r.t.fr = 0
  s : StepOk tk (m.begin tk).2.co
theorem doneA_one (d : DoneM) : (doneA d).all (·.oneCell') = true := all_oneCell_toArray fun v hv => by
  simp only [List.mem_cons, List.not_mem_nil, or_false] at hv
  rcases hv with rfl | rfl | rfl | rfl | rfl | rfl | rfl | rfl <;> rfl
theorem didA_one (d : DidM) : (didA d).all (·.oneCell') = true := all_oneCell_toArray fun v hv => by
  simp only [List.mem_cons, List.not_mem_nil, or_false] at hv
  rcases hv with rfl | rfl | rfl | rfl | rfl | rfl | rfl | rfl | rfl | rfl | rfl | rfl | rfl <;> rfl
theorem may_next {m : DpM} {v : WaitM} (h : m.may = some v) : m.wq.next = some v := by
  unfold DpM.may at h
  cases hx : m.wq.next with
  | none => rw [hx] at h; cases h
  | some u =>
    rw [hx] at h
    dsimp only at h
    split at h
    · cases h
    · split at h
      · split at h
        · cases h
        · exact h
      · exact h
section
variable {w0 w : World} {R : List Pr} {tk : TkM} {S : Hp} {y : DpV} {m : DpM}
set_option maxRecDepth 20000 in
set_option maxHeartbeats 4000000 in
theorem dpStepA (H : Hd w0 (DpL y tk S m R) w) (hs : DpS tk m) (hm : m.may = none) {D : DoneM} {B : Bool} {C : CoM} (hD : ((m.co.step tk).map Prod.fst).getD .zero = D) (hB : (m.co.step tk).isSome = B) (hC : ((m.co.step tk).map Prod.snd).getD m.co = C) :
    Calls Tryz.prog 33 #[.pointer (some ⟨y.d, 0, none⟩)] w fun e w' => e = .returned (.agg (didA ⟨false, .zero, !B, D⟩)) ∧ Hd w0 (DpL y tk S ⟨C, m.wq, m.count⟩ R) w' := by
  obtain ⟨⟨l, t, a, u, ce⟩, hx⟩ : ∃ x, y.x = x := ⟨_, rfl⟩
  obtain ⟨d, c, q, x⟩ := y
  dsimp only at hx
  subst hx
  have H0 : Hd w0 _ ((w.alloc (.cells #[.bool false, .int .i64 0, .int .i64 0, .int .i64 0, .bool false, .int .i64 0, .int .i64 0, .int .i64 0, .int .i64 0, .int .i64 0, .int .i64 0, .int .i64 0, .bool false] 43)).alloc (.cells #[.bool false, .int .i64 0, .int .i64 0, .int .i64 0, .bool false, .int .i64 0, .int .i64 0, .int .i64 0, .int .i64 0, .int .i64 0, .int .i64 0, .int .i64 0, .bool false] 43)) := H.fol
  have H0a : Hd w0 (DpL ⟨d, c, q, ⟨l, t, a, u, ce⟩⟩ tk S m (cel w.heap.size 43 #[.bool false, .int .i64 0, .int .i64 0, .int .i64 0, .bool false, .int .i64 0, .int .i64 0, .int .i64 0, .int .i64 0, .int .i64 0, .int .i64 0, .int .i64 0, .bool false] :: cel (w.heap.size + 1) 43 #[.bool false, .int .i64 0, .int .i64 0, .int .i64 0, .bool false, .int .i64 0, .int .i64 0, .int .i64 0, .int .i64 0, .int .i64 0, .int .i64 0, .int .i64 0, .bool false] :: R)) _ := H0.re
  have hmy := dpMay H0a hs.q hs.c (by have := hs.n; omega)
  have hb : (m.begin tk).2 = m := by unfold DpM.begin; rw [hm]
  have hsk := hs.s
  rw [hb] at hsk
  rw [hm] at hmy
  simp only [Option.getD_none, WaitM.zero, Option.isSome_none] at hmy
  have hn := hs.n
  have hst := fun (w1 : World) (X : List Pr) (h : Hd w0 (cel c 112 (coreRow c l) :: LkP ⟨l, t, a, u, ce⟩ S m.co :: TkP t tk S :: ro S :: X) w1) => coStepAll (x := ⟨l, t, a, u, ce⟩) h (by omega) hsk
  rw [hD, hB, hC] at hst
  replace hst := Lib.hid hst
  replace hD := Lib.hid hD
  replace hB := Lib.hid hB
  replace hC := Lib.hid hC
  replace hm := Lib.hid hm
  replace hb := Lib.hid hb
  clear hs hsk hn H
  go_enter Tryz.func33, Tryz.ntmps33
  go_wp2_with fail
  refine hmy.mono ?_
  rintro e w1 ⟨rfl, H1⟩
  clear hmy H0 H0a
  have H2 : Hd w0 _ (w1.alloc (.cells #[.int .i64 0, .int .i64 0, .int .i64 0] 37)) := H1.fol
  have hsc := hst.out _ (cel w1.heap.size 37 #[.int .i64 0, .int .i64 0, .int .i64 0] :: cel d 78 #[.pointer (some ⟨l, 0, none⟩), .pointer (some ⟨t, 0, none⟩), .pointer (some ⟨c, 0, none⟩), .pointer (some ⟨q, 0, none⟩), .int .i64 m.count] :: WqP q m.wq :: cel w.heap.size 43 #[.bool false, .int .i64 0, .int .i64 0, .int .i64 0, .bool false, .int .i64 0, .int .i64 0, .int .i64 0, .int .i64 0, .int .i64 0, .int .i64 0, .int .i64 0, .bool false] :: cel (w.heap.size + 1) 43 #[.bool false, .int .i64 0, .int .i64 0, .int .i64 0, .bool false, .int .i64 0, .int .i64 0, .int .i64 0, .int .i64 0, .int .i64 0, .int .i64 0, .int .i64 0, .bool false] :: R) H2.re
  have d2 := (show _ = some (Value.pointer (some ⟨c, 0, none⟩)) from (H2.k d).ce 2 rfl)
  go_wp2_with fail
  refine hsc.mono ?_
  rintro e w2 ⟨rfl, H3⟩
  clear hsc H2 H1
  have H4 : Hd w0 _ (w2.alloc (.cells (doneA D) 41)) := H3.fol
  clear d2
  have H4p : Hd w0 (cel (w.heap.size + 1) 43 #[.bool false, .int .i64 0, .int .i64 0, .int .i64 0, .bool false, .int .i64 0, .int .i64 0, .int .i64 0, .int .i64 0, .int .i64 0, .int .i64 0, .int .i64 0, .bool false] :: _) _ := H4.k (w.heap.size + 1)
  go_wp2_with (first | (refine wpList_store_part (g := w.heap.size + 1) (off := 5) (pre := [.bool false, .int .i64 0, .int .i64 0, .int .i64 0, .bool false]) (old := [.int .i64 0, .int .i64 0, .int .i64 0, .int .i64 0, .int .i64 0, .int .i64 0, .int .i64 0, .bool false]) (post := []) (cells := doneA D) H4p rfl rfl rfl 41 _ _ rfl rfl rfl (by kernel_rfl) (doneA_one D) ?_; intro w5 H10; have HA : Hd w0 (cel (w.heap.size + 1) 43 #[.bool false, .int .i64 0, .int .i64 0, .int .i64 0, .bool false, .int .i64 D.job, .int .i64 D.task, .int .i64 D.op.kind, .int .i64 D.op.res, .int .i64 D.op.n, .int .i64 D.op.v, .int .i64 D.why, .bool D.fin] :: _) w5 := H10; have hfA := HA.fact1; simp only [Nat.reduceAdd] at hfA; go_split_ands; have HB : Hd w0 (cel (w.heap.size + 1) 43 #[.bool false, .int .i64 0, .int .i64 0, .int .i64 0, .bool (!B), .int .i64 D.job, .int .i64 D.task, .int .i64 D.op.kind, .int .i64 D.op.res, .int .i64 D.op.n, .int .i64 D.op.v, .int .i64 D.why, .bool D.fin] :: _) (w5.setCell ⟨w.heap.size + 1, 4, none⟩ (.bool (!B))) := HA.set 4 (.bool (!B))) | (refine wpList_store_all (g := w.heap.size) (cells := didA ⟨false, ⟨0, 0, 0⟩, !B, D⟩) (HB.k w.heap.size) rfl 43 _ _ rfl rfl rfl (by kernel_rfl) rfl (didA_one _) ?_; intro w6 H11))
  refine bodyPost_ret (results_row rfl _ _ w.heap.size 43 (didA ⟨false, ⟨0, 0, 0⟩, !B, D⟩) (0, 0) _ (by rfl) (by exact H11.heap) Tryz.underlying43 rfl (by kernel_rfl)) rfl ⟨rfl, ?_⟩
  exact Hd.fin H11
end
end Go.Proofs.YtogcikilphakmaaGreatDoor

/-
  Package dispatch: Step where a job starts. Every dispatch.
-/
namespace Go.Proofs.YtogcikilphakmaaGreatDoor
open Go.RowKit Spl

section
variable {w0 w : World} {R : List Pr} {tk : TkM} {S : Hp} {y : DpV} {m : DpM}
set_option maxRecDepth 20000 in
set_option maxHeartbeats 4000000 in
theorem dpStepB (H : Hd w0 (DpL y tk S m R) w) (hs : DpS tk m) {vj vl : Int} {i : Nat} {r : RowM} (hm : m.may = some ⟨vj, i, vl⟩) (hr : tk.rows[i]? = some r) {D : DoneM} {B : Bool} {C : CoM} (hD : (((m.co.begun vj i r).step tk).map Prod.fst).getD .zero = D) (hB : ((m.co.begun vj i r).step tk).isSome = B) (hC : (((m.co.begun vj i r).step tk).map Prod.snd).getD (m.co.begun vj i r) = C) :
    Calls Tryz.prog 33 #[.pointer (some ⟨y.d, 0, none⟩)] w fun e w' => e = .returned (.agg (didA ⟨true, ⟨vj, i, vl⟩, !B, D⟩)) ∧ ∃ S', Le S S' ∧ Hd w0 (DpL y tk S' ⟨C, m.wq.take, m.count⟩ R) w' := by
  obtain ⟨⟨l, t, a, u, ce⟩, hx⟩ : ∃ x, y.x = x := ⟨_, rfl⟩
  obtain ⟨d, c, q, x⟩ := y
  dsimp only at hx
  subst hx
  have H0 : Hd w0 _ ((w.alloc (.cells #[.bool false, .int .i64 0, .int .i64 0, .int .i64 0, .bool false, .int .i64 0, .int .i64 0, .int .i64 0, .int .i64 0, .int .i64 0, .int .i64 0, .int .i64 0, .bool false] 43)).alloc (.cells #[.bool false, .int .i64 0, .int .i64 0, .int .i64 0, .bool false, .int .i64 0, .int .i64 0, .int .i64 0, .int .i64 0, .int .i64 0, .int .i64 0, .int .i64 0, .bool false] 43)) := H.fol
  have H0a : Hd w0 (DpL ⟨d, c, q, ⟨l, t, a, u, ce⟩⟩ tk S m (cel w.heap.size 43 #[.bool false, .int .i64 0, .int .i64 0, .int .i64 0, .bool false, .int .i64 0, .int .i64 0, .int .i64 0, .int .i64 0, .int .i64 0, .int .i64 0, .int .i64 0, .bool false] :: cel (w.heap.size + 1) 43 #[.bool false, .int .i64 0, .int .i64 0, .int .i64 0, .bool false, .int .i64 0, .int .i64 0, .int .i64 0, .int .i64 0, .int .i64 0, .int .i64 0, .int .i64 0, .bool false] :: R)) _ := H0.re
  have hmy := dpMay H0a hs.q hs.c (by have := hs.n; omega)
  have hb : (m.begin tk).2 = ⟨m.co.begun vj i r, m.wq.take, m.count⟩ := by unfold DpM.begin; rw [hm]; dsimp only; rw [Int.toNat_natCast, hr]
  have hsk := hs.s
  rw [hb] at hsk
  dsimp only at hsk
  obtain ⟨hw1, hw2, hw3, hw4, r2, hw5, hw6⟩ := hs.w _ hm
  dsimp only at hw1 hw2 hw3 hw4 hw5
  rw [Int.toNat_natCast, hr] at hw5
  injection hw5 with hw5
  subst hw5
  have hnx := may_next hm
  rw [hm] at hmy
  simp only [Option.getD_some, Option.isSome_some] at hmy
  have hn := hs.n
  have hfew := hs.few
  have hst := fun (S' : Hp) (w1 : World) (X : List Pr) (h : Hd w0 (cel c 112 (coreRow c l) :: LkP ⟨l, t, a, u, ce⟩ S' (m.co.begun vj i r) :: TkP t tk S' :: ro S' :: X) w1) => coStepAll (x := ⟨l, t, a, u, ce⟩) h (by unfold CoM.begun; simp; omega) hsk
  rw [hD, hB, hC] at hst
  have hgo := fun (w1 : World) (X : List Pr) (h : Hd w0 (cel c 112 (coreRow c l) :: LkP ⟨l, t, a, u, ce⟩ S m.co :: TkP t tk S :: ro S :: X) w1) => coStart (x := ⟨l, t, a, u, ce⟩) h hs.t hs.a (by omega) (by omega) hr hw3 hw4 hw6
  have htk := fun (w1 : World) (X : List Pr) (h : Hd w0 (WqP q m.wq :: X) w1) => wqTake h hs.q hnx ⟨hw1, hw2⟩
  replace hst := Lib.hid hst
  replace hgo := Lib.hid hgo
  replace htk := Lib.hid htk
  replace hD := Lib.hid hD
  replace hB := Lib.hid hB
  replace hC := Lib.hid hC
  replace hm := Lib.hid hm
  replace hb := Lib.hid hb
  replace hnx := Lib.hid hnx
  replace hr := Lib.hid hr
  clear hs hsk hn H hw1 hw2 hw3 hw4 hw6 hfew
  go_enter Tryz.func33, Tryz.ntmps33
  go_wp2_with fail
  refine hmy.mono ?_
  rintro e w1 ⟨rfl, H1⟩
  clear hmy H0 H0a
  have H2 : Hd w0 _ (w1.alloc (.cells #[.int .i64 vj, .int .i64 i, .int .i64 vl] 37)) := H1.fol
  have htc := htk.out _ _ (H2.k q)
  have d3 := (show _ = some (Value.pointer (some ⟨q, 0, none⟩)) from (H2.k d).ce 3 rfl)
  go_wp2_with fail
  refine htc.mono ?_
  rintro e w2 ⟨rfl, H3⟩
  clear htc H2 H1 d3
  have H3d := H3.drew
  have hgc := hgo.out _ (cel w1.heap.size 37 #[.int .i64 vj, .int .i64 i, .int .i64 vl] :: cel d 78 #[.pointer (some ⟨l, 0, none⟩), .pointer (some ⟨t, 0, none⟩), .pointer (some ⟨c, 0, none⟩), .pointer (some ⟨q, 0, none⟩), .int .i64 m.count] :: WqP q m.wq.take :: cel w.heap.size 43 #[.bool false, .int .i64 0, .int .i64 0, .int .i64 0, .bool false, .int .i64 0, .int .i64 0, .int .i64 0, .int .i64 0, .int .i64 0, .int .i64 0, .int .i64 0, .bool false] :: cel (w.heap.size + 1) 43 #[.bool false, .int .i64 0, .int .i64 0, .int .i64 0, .bool false, .int .i64 0, .int .i64 0, .int .i64 0, .int .i64 0, .int .i64 0, .int .i64 0, .int .i64 0, .bool false] :: R) H3d.re
  have d2 := (show _ = some (Value.pointer (some ⟨c, 0, none⟩)) from (H3.k d).ce 2 rfl)
  have p0 := (show _ = some (Value.int .i64 vj) from (H3.k w1.heap.size).ce 0 rfl)
  have p1 := (show _ = some (Value.int .i64 i) from (H3.k w1.heap.size).ce 1 rfl)
  go_wp2_with fail
  refine wp_region_still_tail 8 (by kernel_rfl) (by kernel_rfl) ?_
  simp only [List.take_succ_cons, List.take_zero, List.drop_succ_cons, List.drop_zero, World.drew_eq]
  (repeat still_step)
  refine wpStill_nil ?_
  go_wp2_with fail
  refine hgc.mono ?_
  rintro e w3 ⟨rfl, S', hle, H5⟩
  clear hgc H3 H3d d2 p0 p1
  have q0 := (show _ = some (Value.int .i64 vj) from (H5.k w1.heap.size).ce 0 rfl)
  have q1 := (show _ = some (Value.int .i64 i) from (H5.k w1.heap.size).ce 1 rfl)
  have q2 := (show _ = some (Value.int .i64 vl) from (H5.k w1.heap.size).ce 2 rfl)
  have q3 := (show _ = some (Value.bool false) from (H5.k (w.heap.size + 1)).ce 0 rfl)
  have q4 := (H5.k (w.heap.size + 1)).fr 0
  have H6 : Hd w0 _ (w3.setCell ⟨w.heap.size + 1, 0, none⟩ (.bool true)).drew := H5.fol
  have q5 := (show _ = some (Value.int .i64 vj) from (H6.k w1.heap.size).ce 0 rfl)
  have q6 := (show _ = some (Value.int .i64 i) from (H6.k w1.heap.size).ce 1 rfl)
  have q7 := (show _ = some (Value.int .i64 vl) from (H6.k w1.heap.size).ce 2 rfl)
  go_wp2_with fail
  refine wp_region_mix 3 [(0, true), (1, true), (2, false)] (fun w' => w'.cell? ⟨w1.heap.size, 0, none⟩ = some (.int .i64 vj) ∧ w'.cell? ⟨w1.heap.size, 1, none⟩ = some (.int .i64 i) ∧ w'.cell? ⟨w1.heap.size, 2, none⟩ = some (.int .i64 vl)) (by kernel_rfl) (by kernel_rfl) (⟨q0, q1, q2⟩) (fun _ _ d _ _ h => by cases d <;> exact h) ?_
  simp only [List.drop_succ_cons, List.drop_zero]
  iterate 2 (refine mix_head (o := _) (v := ?_) (by (simp only [List.getElem?_toArray, List.getElem?_cons_succ, List.getElem?_cons_zero]); rfl) (by rfl) (fun w' hS => ?_) ?_; rotate_left 1; (focus ((try dsimp only at hS); (try go_split_ands); go_simp; (try with_reducible rfl))); (try simp only [Act.put, List.setIfInBounds_toArray, List.set_cons_zero, List.set_cons_succ]))
  refine mix_mid (o := _) (by (simp only [List.getElem?_toArray, List.getElem?_cons_succ, List.getElem?_cons_zero]); rfl) ?_
  go_wp2_with fail
  refine mixQ_in ⟨q5, q6, q7⟩ ?_
  refine mix_end ?_
  (try dsimp only)
  have hf5 := (H5.k (w.heap.size + 1)).fact1
  simp only [Nat.reduceAdd] at hf5
  go_split_ands
  have H8 : Hd w0 _ ((((w3.setCell ⟨w.heap.size + 1, 0, none⟩ (.bool true)).setCell ⟨w.heap.size + 1, 1, none⟩ (.int .i64 vj)).setCell ⟨w.heap.size + 1, 2, none⟩ (.int .i64 i)).setCell ⟨w.heap.size + 1, 3, none⟩ (.int .i64 vl)).drew := H5.fol
  have d2 := (show _ = some (Value.pointer (some ⟨c, 0, none⟩)) from (H8.k d).ce 2 rfl)
  have hsc := hst.out S' _ (cel w1.heap.size 37 #[.int .i64 vj, .int .i64 i, .int .i64 vl] :: cel d 78 #[.pointer (some ⟨l, 0, none⟩), .pointer (some ⟨t, 0, none⟩), .pointer (some ⟨c, 0, none⟩), .pointer (some ⟨q, 0, none⟩), .int .i64 m.count] :: WqP q m.wq.take :: cel w.heap.size 43 #[.bool false, .int .i64 0, .int .i64 0, .int .i64 0, .bool false, .int .i64 0, .int .i64 0, .int .i64 0, .int .i64 0, .int .i64 0, .int .i64 0, .int .i64 0, .bool false] :: cel (w.heap.size + 1) 43 #[.bool true, .int .i64 vj, .int .i64 i, .int .i64 vl, .bool false, .int .i64 0, .int .i64 0, .int .i64 0, .int .i64 0, .int .i64 0, .int .i64 0, .int .i64 0, .bool false] :: R) H8.re
  go_wp2_with fail
  refine hsc.mono ?_
  rintro e w4 ⟨rfl, H9⟩
  clear hsc H8 H6 H5
  have H4 : Hd w0 _ (w4.alloc (.cells (doneA D) 41)) := H9.fol
  have H4p : Hd w0 (cel (w.heap.size + 1) 43 #[.bool true, .int .i64 vj, .int .i64 i, .int .i64 vl, .bool false, .int .i64 0, .int .i64 0, .int .i64 0, .int .i64 0, .int .i64 0, .int .i64 0, .int .i64 0, .bool false] :: _) _ := H4.k (w.heap.size + 1)
  go_wp2_with (first | (refine wpList_store_part (g := w.heap.size + 1) (off := 5) (pre := [.bool true, .int .i64 vj, .int .i64 i, .int .i64 vl, .bool false]) (old := [.int .i64 0, .int .i64 0, .int .i64 0, .int .i64 0, .int .i64 0, .int .i64 0, .int .i64 0, .bool false]) (post := []) (cells := doneA D) H4p rfl rfl rfl 41 _ _ rfl rfl rfl (by kernel_rfl) (doneA_one D) ?_; intro w5 H10; have HA : Hd w0 (cel (w.heap.size + 1) 43 #[.bool true, .int .i64 vj, .int .i64 i, .int .i64 vl, .bool false, .int .i64 D.job, .int .i64 D.task, .int .i64 D.op.kind, .int .i64 D.op.res, .int .i64 D.op.n, .int .i64 D.op.v, .int .i64 D.why, .bool D.fin] :: _) w5 := H10; have hfA := HA.fact1; simp only [Nat.reduceAdd] at hfA; go_split_ands; have HB : Hd w0 (cel (w.heap.size + 1) 43 #[.bool true, .int .i64 vj, .int .i64 i, .int .i64 vl, .bool (!B), .int .i64 D.job, .int .i64 D.task, .int .i64 D.op.kind, .int .i64 D.op.res, .int .i64 D.op.n, .int .i64 D.op.v, .int .i64 D.why, .bool D.fin] :: _) (w5.setCell ⟨w.heap.size + 1, 4, none⟩ (.bool (!B))) := HA.set 4 (.bool (!B))) | (refine wpList_store_all (g := w.heap.size) (cells := didA ⟨true, ⟨vj, i, vl⟩, !B, D⟩) (HB.k w.heap.size) rfl 43 _ _ rfl rfl rfl (by kernel_rfl) rfl (didA_one _) ?_; intro w6 H11))
  refine bodyPost_ret (results_row rfl _ _ w.heap.size 43 (didA ⟨true, ⟨vj, i, vl⟩, !B, D⟩) (0, 0) _ (by rfl) (by exact H11.heap) Tryz.underlying43 rfl (by kernel_rfl)) rfl ⟨rfl, ?_⟩
  refine ⟨S', hle, ?_⟩
  exact Hd.fin H11
end
end Go.Proofs.YtogcikilphakmaaGreatDoor

/-
  Package kernel: the model; event; Now; New. Every kernel.
-/
namespace Go.Proofs.YtogcikilphakmaaGreatDoor
open Go.RowKit Spl

structure KeM where
  tk : TkM
  dp : DpM
  ck : Clk
  ev : RingM
/-- One more event. -/
def KeM.event (m : KeM) (e : EvM) : KeM := { m with ev := m.ev.put { e with clock := m.ck.now } }
def KeM.new (words : Int) (units : List Int) : KeM := ⟨⟨words, units, [], []⟩, DpM.new ⟨words, units, [], []⟩, ⟨0, []⟩, ⟨[], 4096, 0⟩⟩
structure KeV where
  k : Nat
  cl : Nat
  rg : Nat
  y : DpV
abbrev KeL (z : KeV) (S : Hp) (m : KeM) (R : List Pr) : List Pr :=
  cel z.k 55 #[.pointer (some ⟨z.y.x.l, 0, none⟩), .pointer (some ⟨z.y.x.t, 0, none⟩), .pointer (some ⟨z.y.d, 0, none⟩), .pointer (some ⟨z.cl, 0, none⟩), .pointer (some ⟨z.rg, 0, none⟩)] ::
    Clock z.cl m.ck :: RingP z.rg m.ev :: DpL z.y m.tk S m.dp R
instance {c : Nat} {m : Clk} : Key (Clock c m) (.b c) := ⟨trivial⟩
abbrev evA (e : EvM) : Array Value := #[.int .i64 e.kind, .int .i64 e.task, .int .i64 e.job, .int .i64 e.op.kind, .int .i64 e.op.res, .int .i64 e.op.n, .int .i64 e.op.v, .int .i64 e.why, .int .i64 e.clock]
section
variable {w0 w : World} {R : List Pr} {S : Hp} {z : KeV} {m : KeM}
set_option maxRecDepth 20000 in
set_option maxHeartbeats 4000000 in
theorem keEvent (H : Hd w0 (KeL z S m R) w) (hr : m.ev.Ok) (e : EvM) :
    Calls Tryz.prog 29 #[.pointer (some ⟨z.k, 0, none⟩), .agg (evA e)] w fun r w' => r = .returned (.tuple #[]) ∧ Hd w0 (KeL z S (m.event e) R) w' := by
  obtain ⟨k, cl, rg, y⟩ := z
  have H1 : Hd w0 _ (w.alloc (.cells (evA e) 65)) := H.fol
  have hnow := clkNow (H1.k cl)
  have k3 := (show _ = some (Value.pointer (some ⟨cl, 0, none⟩)) from (H1.k k).ce 3 rfl)
  have e8 := (show _ = some (Value.int .i64 e.clock) from (H1.k w.heap.size).ce 8 rfl)
  have e9 := (H1.k w.heap.size).fr 8
  have H2 : Hd w0 _ (w.alloc (.cells #[.int .i64 e.kind, .int .i64 e.task, .int .i64 e.job, .int .i64 e.op.kind, .int .i64 e.op.res, .int .i64 e.op.n, .int .i64 e.op.v, .int .i64 e.why, .int .i64 m.ck.now] 65)) := H.fol
  have k4 := (show _ = some (Value.pointer (some ⟨rg, 0, none⟩)) from (H2.k k).ce 4 rfl)
  have hpu := ringPut (H2.drew.k rg) hr { e with clock := m.ck.now }
  have hf := (H2.k w.heap.size).fact1
  simp only [Nat.reduceAdd] at hf
  go_split_ands
  have hev : m.event e = { m with ev := m.ev.put { e with clock := m.ck.now } } := rfl
  rw [hev]
  clear H
  go_enter Tryz.func29, Tryz.ntmps29
  go_wp2_with fail
  refine hnow.mono ?_
  rintro r w1 ⟨rfl, rfl⟩
  clear hnow
  go_wp2_with fail
  refine wp_region_still_tail 5 (by kernel_rfl) (by kernel_rfl) ?_
  simp only [List.take_succ_cons, List.take_zero, List.drop_succ_cons, List.drop_zero, World.drew_eq]
  (repeat still_step)
  refine wpStill_nil ?_
  go_wp2_with fail
  refine hpu.mono ?_
  rintro r w2 ⟨rfl, H3⟩
  clear hpu
  go_wp2_with fail
  go_end0
  exact ⟨rfl, H3.re⟩
end
end Go.Proofs.YtogcikilphakmaaGreatDoor

/-
  Package kernel: Release, due. Every kernel.
-/
namespace Go.Proofs.YtogcikilphakmaaGreatDoor
open Go.RowKit Spl

def evRelease (task job : Int) : EvM := ⟨2, task, job, ⟨0, 0, 0, 0⟩, 0, 0⟩
def evLost (task : Int) : EvM := ⟨3, task, 0, ⟨0, 0, 0, 0⟩, 0, 0⟩
/-- A job of a task waits, and it is noted. -/
def KeM.took (m : KeM) (task : Nat) : KeM := KeM.event ⟨m.tk, m.dp.release m.tk task, m.ck.note task, m.ev⟩ (evRelease task m.dp.count)
def KeM.releaseE (m : KeM) (task : Int) : Int := if m.ck.ready task = 0 then m.dp.releaseE m.tk task.toNat else m.ck.ready task
def KeM.release (m : KeM) (task : Int) : KeM := if m.releaseE task = 0 then m.took task.toNat else m
def KeM.due (m : KeM) (task : Nat) : KeM := if m.dp.releaseE m.tk task = 0 then m.took task else m.event (evLost task)
structure KeR (m : KeM) : Prop where
  t : m.tk.Ok
  q : m.dp.wq.Ok
  c : m.dp.count ≤ 4611686018427387904
  k : m.ck.Ok
  e : m.ev.Ok
  n : m.ck.l.length = m.tk.rows.length
theorem ready_pos {m : KeM} (h : KeR m) {task : Int} (hr : m.ck.ready task = 0) : ∃ (i : Nat) (r : RowM), task = i ∧ m.tk.rows[i]? = some r := by
  rcases m.ck.at?_cases task with ⟨h1, _⟩ | ⟨i, p, h1, _, h3⟩
  · unfold Clk.ready at hr
    rw [h1] at hr
    cases hr
  · have hi := lt_of_get? h3
    rw [h.n] at hi
    exact ⟨i, _, h1, List.getElem?_eq_getElem hi⟩
section
variable {w0 w : World} {R : List Pr} {S : Hp} {z : KeV} {m : KeM}
set_option maxRecDepth 20000 in
set_option maxHeartbeats 4000000 in
theorem keReleaseA (H : Hd w0 (KeL z S m R) w) (h : KeR m) {task E : Int} (hE : m.ck.ready task = E) (h0 : ¬ E = 0) :
    Calls Tryz.prog 9 #[.pointer (some ⟨z.k, 0, none⟩), .int .i64 task] w fun r w' => r = .returned (.tuple #[.int .i64 (-1), .int .i64 E]) ∧ Hd w0 (KeL z S m R) w' := by
  obtain ⟨k, cl, rg, y⟩ := z
  have hc := clkReady (H.k cl) h.k task
  rw [hE] at hc
  have k3 := (show _ = some (Value.pointer (some ⟨cl, 0, none⟩)) from (H.k k).ce 3 rfl)
  go_enter Tryz.func9, Tryz.ntmps9
  go_wp2_with fail
  refine hc.mono ?_
  rintro r w1 ⟨rfl, H1⟩
  clear hc
  go_wp2_with fail
  go_ret2
  exact ⟨rfl, H1.re⟩
set_option maxRecDepth 20000 in
set_option maxHeartbeats 4000000 in
theorem keReleaseB (H : Hd w0 (KeL z S m R) w) (h : KeR m) {i : Nat} {r : RowM} (hr : m.tk.rows[i]? = some r) (hE : m.ck.ready i = 0) {E : Int} (hD : m.dp.releaseE m.tk i = E) (h0 : ¬ E = 0) :
    Calls Tryz.prog 9 #[.pointer (some ⟨z.k, 0, none⟩), .int .i64 i] w fun r w' => r = .returned (.tuple #[.int .i64 (-1), .int .i64 E]) ∧ Hd w0 (KeL z S m R) w' := by
  obtain ⟨k, cl, rg, y⟩ := z
  have hc := clkReady (H.k cl) h.k i
  rw [hE] at hc
  have hrel : m.dp.release m.tk i = m.dp := by
    unfold DpM.release
    unfold DpM.releaseE at hD
    rw [hr] at hD ⊢
    dsimp only at hD ⊢
    rw [if_neg (by rw [hD]; exact h0)]
  have hd := fun (w1 : World) (X : List Pr) (h1 : Hd w0 (DpL y m.tk S m.dp X) w1) => dpRelease h1 h.t h.q h.c hr
  rw [hD, if_neg h0, hrel] at hd
  replace hd := Lib.hid hd
  replace hr := Lib.hid hr
  replace hrel := Lib.hid hrel
  have k3 := (show _ = some (Value.pointer (some ⟨cl, 0, none⟩)) from (H.k k).ce 3 rfl)
  go_enter Tryz.func9, Tryz.ntmps9
  go_wp2_with fail
  refine hc.mono ?_
  rintro r w1 ⟨rfl, H1⟩
  clear hc k3
  have k2 := (show _ = some (Value.pointer (some ⟨y.d, 0, none⟩)) from (H1.k k).ce 2 rfl)
  have hdc := hd.out _ (Clock cl m.ck :: cel k 55 #[.pointer (some ⟨y.x.l, 0, none⟩), .pointer (some ⟨y.x.t, 0, none⟩), .pointer (some ⟨y.d, 0, none⟩), .pointer (some ⟨cl, 0, none⟩), .pointer (some ⟨rg, 0, none⟩)] :: RingP rg m.ev :: R) H1.re
  go_wp2_with fail
  refine hdc.mono ?_
  rintro r w2 ⟨rfl, H2⟩
  clear hdc
  go_wp2_with fail
  go_ret2
  exact ⟨rfl, H2.re⟩
set_option maxRecDepth 20000 in
set_option maxHeartbeats 4000000 in
theorem keReleaseC (H : Hd w0 (KeL z S m R) w) (h : KeR m) {i : Nat} {r : RowM} (hr : m.tk.rows[i]? = some r) (hE : m.ck.ready i = 0) (hD : m.dp.releaseE m.tk i = 0) :
    Calls Tryz.prog 9 #[.pointer (some ⟨z.k, 0, none⟩), .int .i64 i] w fun r w' => r = .returned (.tuple #[.int .i64 m.dp.count, .int .i64 0]) ∧ Hd w0 (KeL z S (m.took i) R) w' := by
  obtain ⟨k, cl, rg, y⟩ := z
  have hc := clkReady (H.k cl) h.k i
  rw [hE] at hc
  have hd := fun (w1 : World) (X : List Pr) (h1 : Hd w0 (DpL y m.tk S m.dp X) w1) => dpRelease h1 h.t h.q h.c hr
  rw [hD, if_pos rfl] at hd
  have hno := fun (w1 : World) (X : List Pr) (h1 : Hd w0 (Clock cl m.ck :: X) w1) => clkNote h1 h.k i
  have hev := fun (w1 : World) (h1 : Hd w0 (KeL ⟨k, cl, rg, y⟩ S ⟨m.tk, m.dp.release m.tk i, m.ck.note i, m.ev⟩ R) w1) => keEvent h1 h.e (evRelease i m.dp.count)
  have htk : m.took i = KeM.event ⟨m.tk, m.dp.release m.tk i, m.ck.note i, m.ev⟩ (evRelease i m.dp.count) := rfl
  rw [htk]
  replace hd := Lib.hid hd
  replace hno := Lib.hid hno
  replace hev := Lib.hid hev
  replace hr := Lib.hid hr
  have k3 := (show _ = some (Value.pointer (some ⟨cl, 0, none⟩)) from (H.k k).ce 3 rfl)
  go_enter Tryz.func9, Tryz.ntmps9
  go_wp2_with fail
  refine hc.mono ?_
  rintro r w1 ⟨rfl, H1⟩
  clear hc k3
  have k2 := (show _ = some (Value.pointer (some ⟨y.d, 0, none⟩)) from (H1.k k).ce 2 rfl)
  have hdc := hd.out _ (Clock cl m.ck :: cel k 55 #[.pointer (some ⟨y.x.l, 0, none⟩), .pointer (some ⟨y.x.t, 0, none⟩), .pointer (some ⟨y.d, 0, none⟩), .pointer (some ⟨cl, 0, none⟩), .pointer (some ⟨rg, 0, none⟩)] :: RingP rg m.ev :: R) H1.re
  go_wp2_with fail
  refine hdc.mono ?_
  rintro r w2 ⟨rfl, H2⟩
  clear hdc k2
  have k3 := (show _ = some (Value.pointer (some ⟨cl, 0, none⟩)) from (H2.k k).ce 3 rfl)
  have hnc := hno.out _ _ (H2.k cl)
  go_wp2_with fail
  refine hnc.mono ?_
  rintro r w3 ⟨rfl, H3⟩
  clear hnc k3
  have hec := hev.out _ H3.re
  go_wp2_with fail
  refine hec.mono ?_
  rintro r w4 ⟨rfl, H4⟩
  clear hec
  go_wp2_with fail
  go_ret2
  exact ⟨rfl, H4⟩
set_option maxRecDepth 20000 in
set_option maxHeartbeats 4000000 in
theorem keDueA (H : Hd w0 (KeL z S m R) w) (h : KeR m) {i : Nat} {r : RowM} (hr : m.tk.rows[i]? = some r) {E : Int} (hD : m.dp.releaseE m.tk i = E) (h0 : ¬ E = 0) :
    Calls Tryz.prog 36 #[.pointer (some ⟨z.k, 0, none⟩), .int .i64 i] w fun r w' => r = .returned (.tuple #[.agg #[.int .i64 0, .int .i64 0, .int .i64 0], .bool false]) ∧ Hd w0 (KeL z S (m.event (evLost i)) R) w' := by
  obtain ⟨k, cl, rg, y⟩ := z
  have hrel : m.dp.release m.tk i = m.dp := by
    unfold DpM.release
    unfold DpM.releaseE at hD
    rw [hr] at hD ⊢
    dsimp only at hD ⊢
    rw [if_neg (by rw [hD]; exact h0)]
  have hd := fun (w1 : World) (X : List Pr) (h1 : Hd w0 (DpL y m.tk S m.dp X) w1) => dpRelease h1 h.t h.q h.c hr
  rw [hD, if_neg h0, hrel] at hd
  have hev := fun (w1 : World) (X : List Pr) (h1 : Hd w0 (KeL ⟨k, cl, rg, y⟩ S m X) w1) => keEvent h1 h.e (evLost i)
  replace hd := Lib.hid hd
  replace hr := Lib.hid hr
  replace hrel := Lib.hid hrel
  replace hev := Lib.hid hev
  have H0 : Hd w0 _ (w.alloc (.cells #[.int .i64 0, .int .i64 0, .int .i64 0] 37)) := H.fol
  have k2 := (show _ = some (Value.pointer (some ⟨y.d, 0, none⟩)) from (H0.k k).ce 2 rfl)
  have hdc := hd.out _ (cel w.heap.size 37 #[.int .i64 0, .int .i64 0, .int .i64 0] :: Clock cl m.ck :: cel k 55 #[.pointer (some ⟨y.x.l, 0, none⟩), .pointer (some ⟨y.x.t, 0, none⟩), .pointer (some ⟨y.d, 0, none⟩), .pointer (some ⟨cl, 0, none⟩), .pointer (some ⟨rg, 0, none⟩)] :: RingP rg m.ev :: R) H0.re
  go_enter Tryz.func36, Tryz.ntmps36
  go_wp2_with fail
  refine hdc.mono ?_
  rintro r w1 ⟨rfl, H1⟩
  clear hdc k2 H0
  have hec := hev.out _ (cel w.heap.size 37 #[.int .i64 0, .int .i64 0, .int .i64 0] :: R) H1.re
  go_wp2_with fail
  refine hec.mono ?_
  rintro r w2 ⟨rfl, H2⟩
  clear hec
  have hf := (H2.k w.heap.size).fact1
  simp only [Nat.reduceAdd] at hf
  go_split_ands
  go_wp2_with fail
  refine bodyPost_ret (results_row_tmp rfl _ _ w.heap.size 37 #[.int .i64 0, .int .i64 0, .int .i64 0] (0, 0) _ (by rfl) (by exact ((Hd.fol H2 : Hd w0 _ _).k w.heap.size).heap) Tryz.underlying37 rfl (by kernel_rfl)) rfl ⟨rfl, ?_⟩
  exact Hd.fin H2
set_option maxRecDepth 20000 in
set_option maxHeartbeats 4000000 in
theorem keDueB (H : Hd w0 (KeL z S m R) w) (h : KeR m) {i : Nat} {r : RowM} (hr : m.tk.rows[i]? = some r) (hD : m.dp.releaseE m.tk i = 0) :
    Calls Tryz.prog 36 #[.pointer (some ⟨z.k, 0, none⟩), .int .i64 i] w fun e w' => e = .returned (.tuple #[.agg #[.int .i64 m.dp.count, .int .i64 i, .int .i64 r.t.lv], .bool true]) ∧ Hd w0 (KeL z S (m.took i) R) w' := by
  obtain ⟨k, cl, rg, y⟩ := z
  have hd := fun (w1 : World) (X : List Pr) (h1 : Hd w0 (DpL y m.tk S m.dp X) w1) => dpRelease h1 h.t h.q h.c hr
  rw [hD, if_pos rfl] at hd
  have hno := fun (w1 : World) (X : List Pr) (h1 : Hd w0 (Clock cl m.ck :: X) w1) => clkNote h1 h.k i
  have hev := fun (w1 : World) (X : List Pr) (h1 : Hd w0 (KeL ⟨k, cl, rg, y⟩ S ⟨m.tk, m.dp.release m.tk i, m.ck.note i, m.ev⟩ X) w1) => keEvent h1 h.e (evRelease i m.dp.count)
  have hget := fun (w1 : World) (X : List Pr) (h1 : Hd w0 (TkP y.x.t m.tk S :: ro S :: X) w1) => tkGet h1 h.t hr
  obtain ⟨ev', hev'⟩ : ∃ ev', (KeM.event ⟨m.tk, m.dp.release m.tk i, m.ck.note i, m.ev⟩ (evRelease i m.dp.count)).ev = ev' := ⟨_, rfl⟩
  have hm' : KeM.event ⟨m.tk, m.dp.release m.tk i, m.ck.note i, m.ev⟩ (evRelease i m.dp.count) = ⟨m.tk, m.dp.release m.tk i, m.ck.note i, ev'⟩ := by rw [← hev']; rfl
  have htk : m.took i = ⟨m.tk, m.dp.release m.tk i, m.ck.note i, ev'⟩ := hm'
  rw [htk]
  rw [hm'] at hev
  obtain ⟨dp', hdp'⟩ : ∃ dp', m.dp.release m.tk i = dp' := ⟨_, rfl⟩
  rw [hdp'] at hd hev ⊢
  obtain ⟨⟨nm, lv, fr, nds, cd, p, f, gg⟩, stp⟩ := r
  dsimp only at hget
  replace hd := Lib.hid hd
  replace hno := Lib.hid hno
  replace hev := Lib.hid hev
  replace hget := Lib.hid hget
  replace hr := Lib.hid hr
  replace htk := Lib.hid htk
  replace hm' := Lib.hid hm'
  replace hev' := Lib.hid hev'
  replace hdp' := Lib.hid hdp'
  have H0 : Hd w0 _ (w.alloc (.cells #[.int .i64 0, .int .i64 0, .int .i64 0] 37)) := H.fol
  have k2 := (show _ = some (Value.pointer (some ⟨y.d, 0, none⟩)) from (H0.k k).ce 2 rfl)
  have hdc := hd.out _ (cel w.heap.size 37 #[.int .i64 0, .int .i64 0, .int .i64 0] :: Clock cl m.ck :: cel k 55 #[.pointer (some ⟨y.x.l, 0, none⟩), .pointer (some ⟨y.x.t, 0, none⟩), .pointer (some ⟨y.d, 0, none⟩), .pointer (some ⟨cl, 0, none⟩), .pointer (some ⟨rg, 0, none⟩)] :: RingP rg m.ev :: R) H0.re
  go_enter Tryz.func36, Tryz.ntmps36
  go_wp2_with fail
  refine hdc.mono ?_
  rintro r w1 ⟨rfl, H1⟩
  clear hdc k2 H0
  have k3 := (show _ = some (Value.pointer (some ⟨cl, 0, none⟩)) from (H1.k k).ce 3 rfl)
  have hnc := hno.out _ _ (H1.k cl)
  go_wp2_with fail
  refine hnc.mono ?_
  rintro r w3 ⟨rfl, H3⟩
  clear hnc k3
  have hec := hev.out _ (cel w.heap.size 37 #[.int .i64 0, .int .i64 0, .int .i64 0] :: R) H3.re
  go_wp2_with fail
  refine hec.mono ?_
  rintro r w4 ⟨rfl, H4⟩
  clear hec H3 H1
  have k1 := (show _ = some (Value.pointer (some ⟨y.x.t, 0, none⟩)) from (H4.k k).ce 1 rfl)
  have hgc := hget.out _ (cel w.heap.size 37 #[.int .i64 0, .int .i64 0, .int .i64 0] :: cel k 55 #[.pointer (some ⟨y.x.l, 0, none⟩), .pointer (some ⟨y.x.t, 0, none⟩), .pointer (some ⟨y.d, 0, none⟩), .pointer (some ⟨cl, 0, none⟩), .pointer (some ⟨rg, 0, none⟩)] :: Clock cl (m.ck.note i) :: RingP rg ev' :: cel y.d 78 #[.pointer (some ⟨y.x.l, 0, none⟩), .pointer (some ⟨y.x.t, 0, none⟩), .pointer (some ⟨y.c, 0, none⟩), .pointer (some ⟨y.q, 0, none⟩), .int .i64 dp'.count] ::
    cel y.c 112 (coreRow y.c y.x.l) :: LkP y.x S dp'.co :: WqP y.q dp'.wq :: R) H4.re
  go_wp2_with fail
  refine hgc.mono ?_
  rintro r w5 ⟨v, rfl, H5⟩
  clear hgc
  obtain ⟨a1, c1, rfl, -, -, -, -⟩ := H5.slc_form
  have H6 : Hd w0 _ (w5.alloc (.cells #[.string nm, .int .i64 lv, .int .i64 fr, .slice a1 nds.length c1, .string cd, .int .i64 p, .int .i64 f, .int .i64 gg] 33)) := H5.fol
  have hf := (H6.k w.heap.size).fact1
  have hf2 := (H6.k w5.heap.size).fact1
  simp only [Nat.reduceAdd] at hf hf2
  go_split_ands
  go_wp2_with fail
  refine bodyPost_ret (results_row_tmp rfl _ _ w.heap.size 37 #[.int .i64 m.dp.count, .int .i64 i, .int .i64 lv] (0, 0) _ (by rfl) (by exact ((Hd.fol H6 : Hd w0 _ _).k w.heap.size).heap) Tryz.underlying37 rfl (by kernel_rfl)) rfl ⟨rfl, ?_⟩
  exact Hd.fin H6
end
end Go.Proofs.YtogcikilphakmaaGreatDoor

/-
  Package kernel: Step, six ways. Every kernel.
-/
namespace Go.Proofs.YtogcikilphakmaaGreatDoor
open Go.RowKit Spl

def evStart (t j : Int) : EvM := ⟨4, t, j, ⟨0, 0, 0, 0⟩, 0, 0⟩
def evStep (t j : Int) (o : OpM) (why : Int) : EvM := ⟨5, t, j, o, why, 0⟩
def evFinish (t j : Int) : EvM := ⟨6, t, j, ⟨0, 0, 0, 0⟩, 0, 0⟩
def evTick : EvM := ⟨7, 0, 0, ⟨0, 0, 0, 0⟩, 0, 0⟩
def evIdle : EvM := ⟨8, 0, 0, ⟨0, 0, 0, 0⟩, 0, 0⟩
def evRegister (t : Int) : EvM := ⟨1, t, 0, ⟨0, 0, 0, 0⟩, 0, 0⟩
theorem ring_put_ok {m : RingM} (h : m.Ok) (hg : m.gone + 1 ≤ 4611686018427387904) (x : EvM) : (m.put x).Ok ∧ (m.put x).gone ≤ m.gone + 1 := by
  unfold RingM.put
  have h1 := h.l
  have h2 := h.m0
  have h3 := h.m1
  by_cases hf : m.l.length = m.most
  · rw [if_pos hf]
    exact ⟨⟨by simp; omega, h2, h3, hg⟩, Nat.le_refl _⟩
  · rw [if_neg hf]
    exact ⟨⟨by simp; omega, h2, h3, by dsimp only; omega⟩, by dsimp only; omega⟩
theorem dpStep {w0 w : World} {R : List Pr} {tk : TkM} {S : Hp} {y : DpV} {m : DpM} (H : Hd w0 (DpL y tk S m R) w) (hs : DpS tk m) :
    Calls Tryz.prog 33 #[.pointer (some ⟨y.d, 0, none⟩)] w fun e w' => e = .returned (.agg (didA (m.step tk).1)) ∧ ∃ S', Le S S' ∧ Hd w0 (DpL y tk S' (m.step tk).2 R) w' := by
  cases hm : m.may with
  | none =>
    have hb : m.begin tk = (none, m) := by unfold DpM.begin; rw [hm]
    refine (dpStepA H hs hm rfl rfl rfl).mono ?_
    rintro e w1 ⟨rfl, H1⟩
    unfold DpM.step
    rw [hb]
    dsimp only
    cases hc : m.co.step tk with
    | none => rw [hc] at H1; exact ⟨rfl, S, Le.refl S, H1⟩
    | some r => rw [hc] at H1; exact ⟨rfl, S, Le.refl S, H1⟩
  | some v =>
    obtain ⟨hw1, hw2, hw3, hw4, r, hw5, hw6⟩ := hs.w _ hm
    obtain ⟨vj, vt, vl⟩ := v
    dsimp only at hw1 hw5
    obtain ⟨i, rfl⟩ : ∃ i : Nat, vt = i := ⟨vt.toNat, by omega⟩
    rw [Int.toNat_natCast] at hw5
    have hb : m.begin tk = (some ⟨vj, i, vl⟩, ⟨m.co.begun vj i r, m.wq.take, m.count⟩) := by unfold DpM.begin; rw [hm]; dsimp only; rw [Int.toNat_natCast, hw5]
    refine (dpStepB H hs hm hw5 rfl rfl rfl).mono ?_
    rintro e w1 ⟨rfl, S', hle, H1⟩
    unfold DpM.step
    rw [hb]
    dsimp only
    cases hc : (m.co.begun vj i r).step tk with
    | none => rw [hc] at H1; exact ⟨rfl, S', hle, H1⟩
    | some r => rw [hc] at H1; exact ⟨rfl, S', hle, H1⟩
section
variable {w0 w : World} {R : List Pr} {S : Hp} {z : KeV} {m : KeM}
set_option maxRecDepth 20000 in
set_option maxHeartbeats 4000000 in
theorem keStepA (H : Hd w0 (KeL z S m R) w) (hs : DpS m.tk m.dp) (he : m.ev.Ok) (hg : m.ev.gone + 4 ≤ 4611686018427387904) {sj st sl dj dt ok or on ov why : Int} {fin : Bool} {dp' : DpM} (hd : m.dp.step m.tk = (⟨false, ⟨sj, st, sl⟩, true, ⟨dj, dt, ⟨ok, or, on, ov⟩, why, fin⟩⟩, dp')) :
    Calls Tryz.prog 10 #[.pointer (some ⟨z.k, 0, none⟩)] w fun e w' => e = .returned (.agg (didA ⟨false, ⟨sj, st, sl⟩, true, ⟨dj, dt, ⟨ok, or, on, ov⟩, why, fin⟩⟩)) ∧ ∃ S', Le S S' ∧ Hd w0 (KeL z S' ((⟨m.tk, dp', m.ck, m.ev⟩ : KeM).event evIdle) R) w' := by
  obtain ⟨k, cl, rg, y⟩ := z
  have hst := fun (w1 : World) (X : List Pr) (h1 : Hd w0 (DpL y m.tk S m.dp X) w1) => dpStep h1 hs
  rw [hd] at hst
  dsimp only at hst
  have hev := fun (S' : Hp) (w1 : World) (X : List Pr) (m1 : KeM) (e : EvM) (hr : m1.ev.Ok) (h1 : Hd w0 (KeL ⟨k, cl, rg, y⟩ S' m1 X) w1) => keEvent h1 hr e
  have o0 : (KeM.mk m.tk dp' m.ck m.ev).ev.Ok := he
  obtain ⟨m1, hm1⟩ : ∃ m1, (KeM.mk m.tk dp' m.ck m.ev).event evIdle = m1 := ⟨_, rfl⟩
  have o1 : m1.ev.Ok ∧ m1.ev.gone ≤ m.ev.gone + 1 := by
    have h := ring_put_ok o0 (by have := hg; dsimp only; omega) { evIdle with clock := (KeM.mk m.tk dp' m.ck m.ev).ck.now }
    rw [← hm1]
    exact ⟨h.1, Nat.le_trans h.2 (by exact Nat.le_refl _)⟩
  rw [hm1]
  replace o0 := Lib.hid o0
  clear o1
  have v1 := fun (S' : Hp) (w1 : World) (X : List Pr) (h1 : Hd w0 (KeL ⟨k, cl, rg, y⟩ S' (KeM.mk m.tk dp' m.ck m.ev) X) w1) => hev S' w1 X (KeM.mk m.tk dp' m.ck m.ev) evIdle o0.out h1
  rw [hm1] at v1
  replace v1 := Lib.hid v1
  replace hm1 := Lib.hid hm1
  replace hst := Lib.hid hst
  replace hd := Lib.hid hd
  clear hs he hg hev
  have H0 : Hd w0 _ (w.alloc (.cells #[.bool false, .int .i64 0, .int .i64 0, .int .i64 0, .bool false, .int .i64 0, .int .i64 0, .int .i64 0, .int .i64 0, .int .i64 0, .int .i64 0, .int .i64 0, .bool false] 43)) := H.fol
  have k2 := (show _ = some (Value.pointer (some ⟨y.d, 0, none⟩)) from (H0.k k).ce 2 rfl)
  have hsc := hst.out _ (cel w.heap.size 43 #[.bool false, .int .i64 0, .int .i64 0, .int .i64 0, .bool false, .int .i64 0, .int .i64 0, .int .i64 0, .int .i64 0, .int .i64 0, .int .i64 0, .int .i64 0, .bool false] :: cel k 55 #[.pointer (some ⟨y.x.l, 0, none⟩), .pointer (some ⟨y.x.t, 0, none⟩), .pointer (some ⟨y.d, 0, none⟩), .pointer (some ⟨cl, 0, none⟩), .pointer (some ⟨rg, 0, none⟩)] :: Clock cl m.ck :: RingP rg m.ev :: R) H0.re
  clear H
  go_enter Tryz.func10, Tryz.ntmps10
  go_wp2_with fail
  refine hsc.mono ?_
  rintro e w1 ⟨rfl, S', hle, H1⟩
  clear hsc H0 k2
  have G0 : Hd w0 _ (w1.alloc (.cells #[.bool false, .int .i64 sj, .int .i64 st, .int .i64 sl, .bool true, .int .i64 dj, .int .i64 dt, .int .i64 ok, .int .i64 or, .int .i64 on, .int .i64 ov, .int .i64 why, .bool fin] 43)) := H1.fol
  have hf0 := (G0.k w1.heap.size).fact1
  simp only [Nat.reduceAdd] at hf0
  go_split_ands
  have c1 := v1.out S' _ (cel w1.heap.size 43 #[.bool false, .int .i64 sj, .int .i64 st, .int .i64 sl, .bool true, .int .i64 dj, .int .i64 dt, .int .i64 ok, .int .i64 or, .int .i64 on, .int .i64 ov, .int .i64 why, .bool fin] :: cel w.heap.size 43 #[.bool false, .int .i64 0, .int .i64 0, .int .i64 0, .bool false, .int .i64 0, .int .i64 0, .int .i64 0, .int .i64 0, .int .i64 0, .int .i64 0, .int .i64 0, .bool false] :: R) G0.re
  go_wp2_with fail
  refine c1.mono ?_
  rintro e w2 ⟨rfl, G1⟩
  clear c1
  have hf1 := (G1.k w1.heap.size).fact1
  simp only [Nat.reduceAdd] at hf1
  go_split_ands
  go_wp2_with (first | (refine wpList_store_all (g := w.heap.size) (cells := didA ⟨false, ⟨sj, st, sl⟩, true, ⟨dj, dt, ⟨ok, or, on, ov⟩, why, fin⟩⟩) (G1.k w.heap.size) rfl 43 _ _ rfl rfl rfl (by kernel_rfl) rfl (didA_one _) ?_; intro w9 H11))
  refine bodyPost_ret (results_row rfl _ _ w.heap.size 43 (didA ⟨false, ⟨sj, st, sl⟩, true, ⟨dj, dt, ⟨ok, or, on, ov⟩, why, fin⟩⟩) (0, 0) _ (by rfl) (by exact H11.heap) Tryz.underlying43 rfl (by kernel_rfl)) rfl ⟨rfl, S', hle, ?_⟩
  exact H11.re
end
end Go.Proofs.YtogcikilphakmaaGreatDoor
