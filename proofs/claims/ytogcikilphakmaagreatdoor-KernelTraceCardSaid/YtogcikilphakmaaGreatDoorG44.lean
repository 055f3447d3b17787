/-
  Merged texts of one proof: Ke5, Ke6, Ql.
-/
import Derived.Test.YtogcikilphakmaaGreatDoorG05
import Derived.Test.YtogcikilphakmaaGreatDoorG13
import Derived.Test.YtogcikilphakmaaGreatDoorG42
import Derived.Test.YtogcikilphakmaaGreatDoorG43

/-
  Package kernel: Register. Every kernel, every task.
-/
namespace Go.Proofs.YtogcikilphakmaaGreatDoor
open Go.RowKit Spl

def KeM.register (m : KeM) (x : TaskM) : KeM := if m.checkE x = 0 then KeM.event ⟨m.tk.added x, m.dp, m.ck.add x.p x.f x.g, m.ev⟩ (evRegister m.tk.rows.length) else m
theorem checkE_zero {m : KeM} {x : TaskM} (h : m.checkE x = 0) : checkTk m.tk x = 0 := by
  unfold KeM.checkE at h
  split at h
  · split at h
    · cases h
    · exact h
  · exact h
section
variable {w0 w : World} {R : List Pr} {S : Hp} {z : KeV} {m : KeM}
theorem keCheck [Lay w0 R] (H : Hd w0 (KeL z S m R) w) (h : KeC m) (x : TaskM) {nv : Value} (hs : Srd w0 R nv x.needs) (hL : x.needs.length ≤ 100000) :
    Calls Tryz.prog 26 #[.pointer (some ⟨z.k, 0, none⟩), taskA x nv] w fun e w' => e = .returned (.int .i64 (m.checkE x)) ∧ Hd w0 (KeL z S m R) w' := by
  unfold KeM.checkE
  by_cases h0 : checkTk m.tk x = 0
  · rw [if_pos (.inl h0), h0]
    exact keCheckB0 H h x hs hL h0
  · by_cases h25 : checkTk m.tk x = 25
    · rw [if_pos (.inr h25), h25]
      exact keCheckB25 H h x hs hL h25
    · rw [if_neg (by omega)]
      exact keCheckA H h x hs hL rfl h0 h25
set_option maxRecDepth 20000 in
set_option maxHeartbeats 4000000 in
theorem keRegisterNo [Lay w0 R] (H : Hd w0 (KeL z S m R) w) (h : KeC m) (x : TaskM) {nv : Value} (hs : Srd w0 R nv x.needs) (hL : x.needs.length ≤ 100000) {E : Int} (hE : m.checkE x = E) (h0 : ¬ E = 0) :
    Calls Tryz.prog 6 #[.pointer (some ⟨z.k, 0, none⟩), taskA x nv] w fun e w' => e = .returned (.tuple #[.int .i64 (-1), .int .i64 E]) ∧ Hd w0 (KeL z S m R) w' := by
  obtain ⟨a, c, hv⟩ := hs.form
  subst hv
  have H0 : Hd w0 _ (w.alloc (.cells #[.string x.nm, .int .i64 x.lv, .int .i64 x.fr, .slice a x.needs.length c, .string x.cd, .int .i64 x.p, .int .i64 x.f, .int .i64 x.g] 33)) := H.fol
  have H1 : Hd w0 (KeL z S m (cel w.heap.size 33 #[.string x.nm, .int .i64 x.lv, .int .i64 x.fr, .slice a x.needs.length c, .string x.cd, .int .i64 x.p, .int .i64 x.f, .int .i64 x.g] :: R)) _ := H0.re
  have hc := keCheck H1 h x (hs.of fun h => by exact (Hd.re h : Hd w0 R _)) hL
  rw [hE] at hc
  have hf := (H0.k w.heap.size).fact1
  simp only [Nat.reduceAdd] at hf
  go_split_ands
  replace hs := Lib.hid hs
  replace hE := Lib.hid hE
  go_enter Tryz.func6, Tryz.ntmps6
  go_wp2_with fail
  refine hc.mono ?_
  rintro e w1 ⟨rfl, H2⟩
  clear hc
  go_wp2_with fail
  go_ret2
  exact ⟨rfl, H2.re⟩
set_option maxRecDepth 20000 in
set_option maxHeartbeats 4000000 in
theorem keRegisterYes [Lay w0 R] (H : Hd w0 (KeL z S m R) w) (h : KeC m) (hk : KeR m) (x : TaskM) {nv : Value} (hs : Srd w0 R nv x.needs) (hL : x.needs.length ≤ 100000) (hE : m.checkE x = 0) :
    Calls Tryz.prog 6 #[.pointer (some ⟨z.k, 0, none⟩), taskA x nv] w fun e w' => e = .returned (.tuple #[.int .i64 m.tk.rows.length, .int .i64 0]) ∧ ∃ S', Le S S' ∧ Hd w0 (KeL z S' (KeM.event ⟨m.tk.added x, m.dp, m.ck.add x.p x.f x.g, m.ev⟩ (evRegister m.tk.rows.length)) R) w' := by
  obtain ⟨k, cl, rg, y⟩ := z
  obtain ⟨a, c, hv⟩ := hs.form
  subst hv
  have H0 : Hd w0 _ (w.alloc (.cells #[.string x.nm, .int .i64 x.lv, .int .i64 x.fr, .slice a x.needs.length c, .string x.cd, .int .i64 x.p, .int .i64 x.f, .int .i64 x.g] 33)) := H.fol
  have H1 : Hd w0 (KeL ⟨k, cl, rg, y⟩ S m (cel w.heap.size 33 #[.string x.nm, .int .i64 x.lv, .int .i64 x.fr, .slice a x.needs.length c, .string x.cd, .int .i64 x.p, .int .i64 x.f, .int .i64 x.g] :: R)) _ := H0.re
  have hc := keCheck H1 h x (hs.of fun h => by exact (Hd.re h : Hd w0 R _)) hL
  rw [hE] at hc
  have hct := checkE_zero hE
  have hadd := fun (w1 : World) (h1 : Hd w0 (TkP y.x.t m.tk S :: ro S :: cel w.heap.size 33 #[.string x.nm, .int .i64 x.lv, .int .i64 x.fr, .slice a x.needs.length c, .string x.cd, .int .i64 x.p, .int .i64 x.f, .int .i64 x.g] :: cel k 55 #[.pointer (some ⟨y.x.l, 0, none⟩), .pointer (some ⟨y.x.t, 0, none⟩), .pointer (some ⟨y.d, 0, none⟩), .pointer (some ⟨cl, 0, none⟩), .pointer (some ⟨rg, 0, none⟩)] :: Clock cl m.ck :: RingP rg m.ev :: cel y.d 78 #[.pointer (some ⟨y.x.l, 0, none⟩), .pointer (some ⟨y.x.t, 0, none⟩), .pointer (some ⟨y.c, 0, none⟩), .pointer (some ⟨y.q, 0, none⟩), .int .i64 m.dp.count] :: cel y.c 112 (coreRow y.c y.x.l) :: LkP y.x S m.dp.co :: WqP y.q m.dp.wq :: R) w1) => tkAdd h1 h.t x (hs.of fun h => by exact (Hd.re h : Hd w0 R _)) hL hct
  have hca := fun (w1 : World) (X : List Pr) (h1 : Hd w0 (Clock cl m.ck :: X) w1) => clkAdd h1 hk.k x.nm x.lv x.fr a x.needs.length c x.cd x.p x.f x.g
  have hev := fun (S' : Hp) (w1 : World) (X : List Pr) (h1 : Hd w0 (KeL ⟨k, cl, rg, y⟩ S' ⟨m.tk.added x, m.dp, m.ck.add x.p x.f x.g, m.ev⟩ X) w1) => keEvent h1 hk.e (evRegister m.tk.rows.length)
  have hf := (H0.k w.heap.size).fact1
  simp only [Nat.reduceAdd] at hf
  go_split_ands
  replace hs := Lib.hid hs
  replace hE := Lib.hid hE
  replace hct := Lib.hid hct
  replace hadd := Lib.hid hadd
  replace hca := Lib.hid hca
  replace hev := Lib.hid hev
  clear H H0 H1
  go_enter Tryz.func6, Tryz.ntmps6
  go_wp2_with fail
  refine hc.mono ?_
  rintro e w1 ⟨rfl, H2⟩
  clear hc
  have H2d : Hd w0 (TkP y.x.t m.tk S :: ro S :: cel w.heap.size 33 #[.string x.nm, .int .i64 x.lv, .int .i64 x.fr, .slice a x.needs.length c, .string x.cd, .int .i64 x.p, .int .i64 x.f, .int .i64 x.g] :: cel k 55 #[.pointer (some ⟨y.x.l, 0, none⟩), .pointer (some ⟨y.x.t, 0, none⟩), .pointer (some ⟨y.d, 0, none⟩), .pointer (some ⟨cl, 0, none⟩), .pointer (some ⟨rg, 0, none⟩)] :: Clock cl m.ck :: RingP rg m.ev :: cel y.d 78 #[.pointer (some ⟨y.x.l, 0, none⟩), .pointer (some ⟨y.x.t, 0, none⟩), .pointer (some ⟨y.c, 0, none⟩), .pointer (some ⟨y.q, 0, none⟩), .int .i64 m.dp.count] :: cel y.c 112 (coreRow y.c y.x.l) :: LkP y.x S m.dp.co :: WqP y.q m.dp.wq :: R) w1.drew := H2.drew.re
  have hac := hadd.out _ H2d
  go_wp2_with fail
  refine wp_region_mix 10 [(0, true), (1, true), (2, true), (3, true), (4, true), (5, false), (6, true), (7, true), (8, true), (9, true)] (fun w' => w'.cell? ⟨k, 1, none⟩ = some (.pointer (some ⟨y.x.t, 0, none⟩)) ∧ w'.cell? ⟨w.heap.size, 0, none⟩ = some (.string x.nm) ∧ w'.cell? ⟨w.heap.size, 1, none⟩ = some (.int .i64 x.lv) ∧ w'.cell? ⟨w.heap.size, 2, none⟩ = some (.int .i64 x.fr) ∧ w'.cell? ⟨w.heap.size, 3, none⟩ = some (.slice a x.needs.length c) ∧ w'.cell? ⟨w.heap.size, 4, none⟩ = some (.string x.cd) ∧ w'.cell? ⟨w.heap.size, 5, none⟩ = some (.int .i64 x.p) ∧ w'.cell? ⟨w.heap.size, 6, none⟩ = some (.int .i64 x.f) ∧ w'.cell? ⟨w.heap.size, 7, none⟩ = some (.int .i64 x.g)) (by kernel_rfl) (by kernel_rfl) (⟨(show _ = some _ from (H2d.k k).ce 1 rfl), (show _ = some _ from (H2d.k w.heap.size).ce 0 rfl), (show _ = some _ from (H2d.k w.heap.size).ce 1 rfl), (show _ = some _ from (H2d.k w.heap.size).ce 2 rfl), (show _ = some _ from (H2d.k w.heap.size).ce 3 rfl), (show _ = some _ from (H2d.k w.heap.size).ce 4 rfl), (show _ = some _ from (H2d.k w.heap.size).ce 5 rfl), (show _ = some _ from (H2d.k w.heap.size).ce 6 rfl), (show _ = some _ from (H2d.k w.heap.size).ce 7 rfl)⟩) (fun _ _ d _ _ h => by cases d <;> exact h) ?_
  simp only [List.drop_succ_cons, List.drop_zero]
  iterate 5 (refine mix_head (o := _) (v := ?_) (by (simp only [List.getElem?_toArray, List.getElem?_cons_succ, List.getElem?_cons_zero]); rfl) (by rfl) (fun w' hS => ?_) ?_; rotate_left 1; (focus ((try dsimp only at hS); (try go_split_ands); go_simp; (try with_reducible rfl))); (try simp only [Act.put, List.setIfInBounds_toArray, List.set_cons_zero, List.set_cons_succ]))
  refine mix_mid (o := _) (by (simp only [List.getElem?_toArray, List.getElem?_cons_succ, List.getElem?_cons_zero]); rfl) ?_
  go_wp2_with fail
  refine hac.mono ?_
  rintro e w2 ⟨rfl, S', hle, H3⟩
  clear hac
  go_wp2_with fail
  refine mixQ_in ⟨(show _ = some _ from (H3.k k).ce 1 rfl), (show _ = some _ from (H3.k w.heap.size).ce 0 rfl), (show _ = some _ from (H3.k w.heap.size).ce 1 rfl), (show _ = some _ from (H3.k w.heap.size).ce 2 rfl), (show _ = some _ from (H3.k w.heap.size).ce 3 rfl), (show _ = some _ from (H3.k w.heap.size).ce 4 rfl), (show _ = some _ from (H3.k w.heap.size).ce 5 rfl), (show _ = some _ from (H3.k w.heap.size).ce 6 rfl), (show _ = some _ from (H3.k w.heap.size).ce 7 rfl)⟩ ?_
  iterate 4 (refine mix_head (o := _) (v := ?_) (by (simp only [List.getElem?_toArray, List.getElem?_cons_succ, List.getElem?_cons_zero]); rfl) (by rfl) (fun w' hS => ?_) ?_; rotate_left 1; (focus ((try dsimp only at hS); (try go_split_ands); go_simp; (try with_reducible rfl))); (try simp only [Act.put, List.setIfInBounds_toArray, List.set_cons_zero, List.set_cons_succ]))
  refine mix_end ?_
  (try dsimp only)
  have H3d := H3.drew
  have hcc := hca.out _ _ (H3d.k cl)
  go_wp2_with fail
  refine wp_region_mix 5 [(0, true), (1, true), (2, true), (3, true), (4, true)] (fun w' => w'.cell? ⟨k, 3, none⟩ = some (.pointer (some ⟨cl, 0, none⟩)) ∧ w'.cell? ⟨w.heap.size, 0, none⟩ = some (.string x.nm) ∧ w'.cell? ⟨w.heap.size, 1, none⟩ = some (.int .i64 x.lv) ∧ w'.cell? ⟨w.heap.size, 2, none⟩ = some (.int .i64 x.fr) ∧ w'.cell? ⟨w.heap.size, 3, none⟩ = some (.slice a x.needs.length c) ∧ w'.cell? ⟨w.heap.size, 4, none⟩ = some (.string x.cd) ∧ w'.cell? ⟨w.heap.size, 5, none⟩ = some (.int .i64 x.p) ∧ w'.cell? ⟨w.heap.size, 6, none⟩ = some (.int .i64 x.f) ∧ w'.cell? ⟨w.heap.size, 7, none⟩ = some (.int .i64 x.g)) (by kernel_rfl) (by kernel_rfl) (⟨(show _ = some _ from (H3d.k k).ce 3 rfl), (show _ = some _ from (H3d.k w.heap.size).ce 0 rfl), (show _ = some _ from (H3d.k w.heap.size).ce 1 rfl), (show _ = some _ from (H3d.k w.heap.size).ce 2 rfl), (show _ = some _ from (H3d.k w.heap.size).ce 3 rfl), (show _ = some _ from (H3d.k w.heap.size).ce 4 rfl), (show _ = some _ from (H3d.k w.heap.size).ce 5 rfl), (show _ = some _ from (H3d.k w.heap.size).ce 6 rfl), (show _ = some _ from (H3d.k w.heap.size).ce 7 rfl)⟩) (fun _ _ d _ _ h => by cases d <;> exact h) ?_
  simp only [List.drop_succ_cons, List.drop_zero]
  iterate 5 (refine mix_head (o := _) (v := ?_) (by (simp only [List.getElem?_toArray, List.getElem?_cons_succ, List.getElem?_cons_zero]); rfl) (by rfl) (fun w' hS => ?_) ?_; rotate_left 1; (focus ((try dsimp only at hS); (try go_split_ands); go_simp; (try with_reducible rfl))); (try simp only [Act.put, List.setIfInBounds_toArray, List.set_cons_zero, List.set_cons_succ]))
  refine mix_end ?_
  (try dsimp only)
  go_wp2_with fail
  refine hcc.mono ?_
  rintro e w3 ⟨rfl, H4⟩
  clear hcc H3 H3d
  have H5 := LkP.mono (H4.b9) hle
  have hec := hev.out S' _ (cel w.heap.size 33 #[.string x.nm, .int .i64 x.lv, .int .i64 x.fr, .slice a x.needs.length c, .string x.cd, .int .i64 x.p, .int .i64 x.f, .int .i64 x.g] :: R) H5.re
  go_wp2_with fail
  refine hec.mono ?_
  rintro e w4 ⟨rfl, H6⟩
  clear hec
  go_wp2_with fail
  go_ret2
  exact ⟨rfl, S', hle, H6.re⟩
theorem keRegister [Lay w0 R] (H : Hd w0 (KeL z S m R) w) (h : KeC m) (hk : KeR m) (x : TaskM) {nv : Value} (hs : Srd w0 R nv x.needs) (hL : x.needs.length ≤ 100000) :
    Calls Tryz.prog 6 #[.pointer (some ⟨z.k, 0, none⟩), taskA x nv] w fun e w' => e = .returned (.tuple #[.int .i64 (if m.checkE x = 0 then m.tk.rows.length else -1), .int .i64 (m.checkE x)]) ∧ ∃ S', Le S S' ∧ Hd w0 (KeL z S' (m.register x) R) w' := by
  unfold KeM.register
  by_cases h0 : m.checkE x = 0
  · rw [if_pos h0, if_pos h0, h0]
    exact keRegisterYes H h hk x hs hL h0
  · rw [if_neg h0, if_neg h0]
    refine (keRegisterNo H h x hs hL rfl h0).mono ?_
    rintro e w1 ⟨rfl, H1⟩
    exact ⟨rfl, S, Le.refl S, H1⟩
end
end Go.Proofs.YtogcikilphakmaaGreatDoor

/-
  Package kernel: Step as the model says; New. Every kernel.
-/
namespace Go.Proofs.YtogcikilphakmaaGreatDoor
open Go.RowKit Spl

def KeM.step (m : KeM) : DidM × KeM :=
  let d := (m.dp.step m.tk).1
  let m1 : KeM := ⟨m.tk, (m.dp.step m.tk).2, m.ck, m.ev⟩
  let m2 := if d.started then m1.event (evStart d.start.task d.start.job) else m1
  (d, if d.idle then m2.event evIdle else
    if d.done.fin then (m2.event (evStep d.done.task d.done.job d.done.op d.done.why)).event (evFinish d.done.task d.done.job) else m2.event (evStep d.done.task d.done.job d.done.op d.done.why))
theorem newTk_ok {words : Int} {units : List Int} (hc : newTk words units = 0) : TkM.Ok ⟨words, units, [], []⟩ := by
  unfold newTk at hc
  by_cases h1 : words < 0 ∨ 65536 < words
  · rw [if_pos h1] at hc; cases hc
  · rw [if_neg h1] at hc
    by_cases h2 : (16 : Int) < units.length
    · rw [if_pos h2] at hc; cases hc
    · rw [if_neg h2] at hc
      by_cases h3 : units.all (fun x => decide (1 ≤ x) && decide (x ≤ 255)) = true
      · refine ⟨by dsimp only; omega, by dsimp only; omega, fun x hx => by simpa using (List.all_eq_true.1 h3 x hx), by simp, ?_, ?_, ?_, ?_, .nil, rfl⟩
        all_goals (intro r hr; cases hr)
      · rw [if_neg h3] at hc; cases hc
section
variable {w0 w : World} {R : List Pr} {S : Hp} {z : KeV} {m : KeM}
theorem keStep (H : Hd w0 (KeL z S m R) w) (hs : DpS m.tk m.dp) (he : m.ev.Ok) (hg : m.ev.gone + 4 ≤ 4611686018427387904) :
    Calls Tryz.prog 10 #[.pointer (some ⟨z.k, 0, none⟩)] w fun e w' => e = .returned (.agg (didA m.step.1)) ∧ ∃ S', Le S S' ∧ Hd w0 (KeL z S' m.step.2 R) w' := by
  obtain ⟨⟨d, dp'⟩, hd⟩ : ∃ d, m.dp.step m.tk = d := ⟨_, rfl⟩
  unfold KeM.step
  rw [hd]
  obtain ⟨st, ⟨sj, st2, sl⟩, idl, ⟨dj, dt, ⟨ok, or, on, ov⟩, why, fin⟩⟩ := d
  cases st <;> cases idl
  · cases fin
    · exact keStepB H hs he hg hd
    · exact keStepC H hs he hg hd
  · exact keStepA H hs he hg hd
  · cases fin
    · exact keStepE H hs he hg hd
    · exact keStepF H hs he hg hd
  · exact keStepD H hs he hg hd
set_option maxRecDepth 20000 in
set_option maxHeartbeats 4000000 in
theorem keNew (H : Hd w0 (ro S :: R) w) {words : Int} {units : List Int} {v : Value} (hs : Srd w0 (ro S :: R) v units) (hc : newTk words units = 0) :
    Calls Tryz.prog 5 #[.agg #[.int .i64 words, v]] w fun e w' => ∃ z : KeV, e = .returned (.tuple #[.pointer (some ⟨z.k, 0, none⟩), .int .i64 0]) ∧ Hd w0 (KeL z S (KeM.new words units) R) w' := by
  obtain ⟨a, c, hv⟩ := hs.form
  subst hv
  have htk : TkM.Ok ⟨words, units, [], []⟩ := newTk_ok hc
  have H0 : Hd w0 _ (w.alloc (.cells #[.int .i64 words, .slice a units.length c] 28)) := H.fol
  have h1 := tkNew (S := S) H0 (hs.of fun h => by exact (Hd.re h : Hd w0 (ro S :: R) _)) hc
  have hf := H0.facts
  simp only [Nat.reduceAdd] at hf
  go_split_ands
  have hdp := fun (t : Nat) (w1 : World) (X : List Pr) (h : Hd w0 (TkP t ⟨words, units, [], []⟩ S :: ro S :: X) w1) => dpNew h htk
  replace hdp := Lib.hid hdp
  replace htk := Lib.hid htk
  replace hs := Lib.hid hs
  go_enter Tryz.func5, Tryz.ntmps5
  go_wp2_with fail
  refine h1.mono ?_
  rintro e w1 ⟨t, rfl, H1⟩
  clear h1 H0
  have h2 := hdp.out t _ (cel w.heap.size 28 #[.int .i64 words, .slice a units.length c] :: R) H1.re
  go_wp2_with fail
  refine h2.mono ?_
  rintro e w2 ⟨y, hy, rfl, H2⟩
  clear h2 H1
  have h3 := ringNew H2
  go_wp2_with fail
  refine h3.mono ?_
  rintro e w3 ⟨rg, rfl, H3⟩
  clear h3 H2
  have h4 := fun (w1 : World) (X : List Pr) (h : Hd w0 X w1) => (show Calls Tryz.prog 25 #[] w1 (fun e w' => ∃ c, e = .returned (.pointer (some ⟨c, 0, none⟩)) ∧ Hd w0 (Clock c ⟨0, []⟩ :: X) w') from clkNew h)
  replace h4 := h4 _ _ H3.drew
  have k0 := (show _ = some (Value.pointer (some ⟨y.x.l, 0, none⟩)) from (H3.drew.k y.d).ce 0 rfl)
  go_wp2_with fail
  refine wp_region_mix 8 [(0, true), (1, true), (2, true), (3, true), (4, true), (5, true), (7, true), (6, false)] (fun w' => w'.cell? ⟨y.d, 0, none⟩ = some (.pointer (some ⟨y.x.l, 0, none⟩))) (by kernel_rfl) (by kernel_rfl) (k0) (fun _ _ d _ _ h => by cases d <;> exact h) ?_
  simp only [List.drop_succ_cons, List.drop_zero]
  iterate 7 (refine mix_head (o := _) (v := ?_) (by (simp only [List.getElem?_toArray, List.getElem?_cons_succ, List.getElem?_cons_zero]); rfl) (by rfl) (fun w' hS => ?_) ?_; rotate_left 1; (focus ((try dsimp only at hS); (try go_split_ands); go_simp; (try with_reducible rfl))); (try simp only [Act.put, List.setIfInBounds_toArray, List.set_cons_zero, List.set_cons_succ]))
  refine mix_mid (o := _) (by (simp only [List.getElem?_toArray, List.getElem?_cons_succ, List.getElem?_cons_zero]); rfl) ?_
  go_wp2_with fail
  refine h4.mono ?_
  rintro e w4 ⟨cl, rfl, H4⟩
  clear h4
  go_wp2_with fail
  refine mixQ_in (show _ = some (Value.pointer (some ⟨y.x.l, 0, none⟩)) from (H4.k y.d).ce 0 rfl) ?_
  refine mix_end ?_
  (try dsimp only)
  go_wp2_with fail
  go_ret2
  refine ⟨⟨w4.heap.size, cl, rg, y⟩, rfl, ?_⟩
  subst hy
  have H5 : Hd w0 _ (w4.alloc (.cells #[.pointer (some ⟨y.x.l, 0, none⟩), .pointer (some ⟨y.x.t, 0, none⟩), .pointer (some ⟨y.d, 0, none⟩), .pointer (some ⟨cl, 0, none⟩), .pointer (some ⟨rg, 0, none⟩)] 55)) := H4.fol
  have H6 : Hd w0 (cel w4.heap.size 55 #[.pointer (some ⟨y.x.l, 0, none⟩), .pointer (some ⟨y.x.t, 0, none⟩), .pointer (some ⟨y.d, 0, none⟩), .pointer (some ⟨cl, 0, none⟩), .pointer (some ⟨rg, 0, none⟩)] :: Clock cl ⟨0, []⟩ :: RingP rg ⟨[], 4096, 0⟩ :: DpL y ⟨words, units, [], []⟩ S (DpM.new ⟨words, units, [], []⟩) R) _ := H5.re
  exact H6
end
end Go.Proofs.YtogcikilphakmaaGreatDoor

/-
  shelf.Queue: List. Every queue.
-/
namespace Go.Proofs.YtogcikilphakmaaGreatDoor
open Go.RowKit Spl
section
variable {w0 w : World} {R : List Pr} {s o T : Nat} {C : Array Value} {v : Value} {l : List EvM} {f : Nat} {gar : List Value}

set_option maxRecDepth 20000 in
set_option maxHeartbeats 4000000 in
theorem qList_ev (H : Hd w0 (cel s T C :: Slc 65 9 v (f + l.length) (gar ++ flat l) :: R) w) (hC : C[o]? = some v) (hC1 : C[o + 1]? = some (.int .i64 f)) (hg : gar.length = f * 9) (hf : f ≤ 100000) (hn : l.length ≤ 100000) :
    Calls Tryz.prog 71 #[.pointer (some ⟨s, o, none⟩)] w fun e w' => ∃ g, e = .returned (.slice (some ⟨g, 0, none⟩) l.length l.length) ∧ Hd w0 (SlEC 65 g l.length l :: cel s T C :: Slc 65 9 v (f + l.length) (gar ++ flat l) :: R) w' := by
  have c0 := (H.rd o).trans hC
  have c1 := (H.rd (o + 1)).trans hC1
  rcases H.b2.slc with ⟨rfl, hz, -, -⟩ | ⟨g, cap, rfl, H1⟩
  · have hl0 : l.length = 0 := by omega
    have hl : l = [] := List.eq_nil_of_length_eq_zero hl0
    have hf0 : f = 0 := by omega
    subst hl
    subst hf0
    clear hl0 hz
    have HD := H.drew
    have hcp := copied_ev (l := ([] : List EvM)) (A := none) (cap := 0) HD (by simp) rfl (by simp) (fun _ _ _ _ _ hj => by cases hj)
    have hC' := Lib.hid hC
    have hC1' := Lib.hid hC1
    clear hC hC1
    go_enter Tryz.func71, Tryz.ntmps71
    go_wp2_with fail
    refine wp_region_mix 10 [(0, true), (1, true), (2, true), (3, true), (4, true), (5, true), (6, true), (7, true), (8, true), (9, false)] (fun w' => w'.cell? ⟨s, o, none⟩ = some (.slice none 0 0) ∧ w'.cell? ⟨s, o + 1, none⟩ = some (.int .i64 (0 : Nat))) (by kernel_rfl) (by kernel_rfl) (⟨c0, c1⟩) (fun _ _ d _ _ h => by cases d <;> exact h) ?_
    simp only [List.drop_succ_cons, List.drop_zero]
    iterate 9 (refine mix_head (o := _) (v := ?_) (by (simp only [List.getElem?_toArray, List.getElem?_cons_succ, List.getElem?_cons_zero]); rfl) (by rfl) (fun w' hS => ?_) ?_; rotate_left 1; (focus ((try dsimp only at hS); (try go_split_ands); go_simp; (try with_reducible rfl))); (try simp only [Act.put, List.setIfInBounds_toArray, List.set_cons_zero, List.set_cons_succ]))
    refine mix_mid (o := _) (by (simp only [List.getElem?_toArray, List.getElem?_cons_succ, List.getElem?_cons_zero]); rfl) ?_
    go_wp2_with fail
    refine hcp.mono ?_
    rintro e w1 ⟨g5, rfl, H2⟩
    clear hcp
    go_wp2_with fail
    refine mixQ_in ⟨((H2.b2.rd o).trans hC'.out), ((H2.b2.rd (o + 1)).trans hC1'.out)⟩ ?_
    refine mix_end ?_
    (try dsimp only)
    go_wp2_with fail
    go_ret
    exact ⟨g5, rfl, H2⟩
  · obtain ⟨hxl, hnc, hcm, sp, hsp, H3⟩ := H1.slcC
    by_cases hcf : cap = f
    · have hl0 : l.length = 0 := by omega
      have hl : l = [] := List.eq_nil_of_length_eq_zero hl0
      subst hl
      subst hcf
      have m1 : ¬ (cap : Int) < 0 := by omega
      have m2 : (0 : Int) ≤ cap := by omega
      clear hl0
      have HD := H.drew
      have hcp := copied_ev (l := ([] : List EvM)) (A := some ⟨g, 0, none⟩) (cap := 0) HD (by simp) rfl (by simp) (fun _ _ _ _ _ hj => by cases hj)
      have hC' := Lib.hid hC
      have hC1' := Lib.hid hC1
      clear hC hC1
      go_enter Tryz.func71, Tryz.ntmps71
      go_wp2_with fail
      refine wp_region_mix 10 [(0, true), (1, true), (2, true), (3, true), (4, true), (5, true), (6, true), (7, true), (8, true), (9, false)] (fun w' => w'.cell? ⟨s, o, none⟩ = some (.slice (some ⟨g, 0, none⟩) (cap + ([] : List EvM).length) cap) ∧ w'.cell? ⟨s, o + 1, none⟩ = some (.int .i64 cap)) (by kernel_rfl) (by kernel_rfl) (⟨c0, c1⟩) (fun _ _ d _ _ h => by cases d <;> exact h) ?_
      simp only [List.drop_succ_cons, List.drop_zero]
      iterate 9 (refine mix_head (o := _) (v := ?_) (by (simp only [List.getElem?_toArray, List.getElem?_cons_succ, List.getElem?_cons_zero]); rfl) (by rfl) (fun w' hS => ?_) ?_; rotate_left 1; (focus ((try dsimp only at hS); (try go_split_ands); go_simp; (try with_reducible rfl))); (try simp only [Act.put, List.setIfInBounds_toArray, List.set_cons_zero, List.set_cons_succ]))
      refine mix_mid (o := _) (by (simp only [List.getElem?_toArray, List.getElem?_cons_succ, List.getElem?_cons_zero]); rfl) ?_
      go_wp2_with fail
      refine hcp.mono ?_
      rintro e w1 ⟨g5, rfl, H2⟩
      clear hcp
      go_wp2_with fail
      refine mixQ_in ⟨((H2.b2.rd o).trans hC'.out), ((H2.b2.rd (o + 1)).trans hC1'.out)⟩ ?_
      refine mix_end ?_
      (try dsimp only)
      go_wp2_with fail
      go_ret
      exact ⟨g5, rfl, H2⟩
    · have m1 : (f : Int) ≤ cap := by omega
      have m2 : ¬ (f : Int) < 0 := by omega
      have m3 : (0 : Int) ≤ f := by omega
      have m4 : f ≤ cap := by omega
      have m5 : ¬ cap - f = 0 := by omega
      have m6 : f + l.length - f = l.length := by omega
      have m7 : (f : Int) ≤ (f : Int) + l.length := by omega
      have m8 : f ≤ f + l.length := by omega
      have m9 : ¬ cap = f := hcf
      have HD := H.drew
      have hcp := copied_ev (l := l) (A := some ⟨g, f * 9, none⟩) (cap := cap - f) HD hn rfl (by simp) (by
        intro w1 h ad had j u hj
        obtain rfl := Option.some.inj had
        have h2 := h.b2.slc_news.2 _ rfl (f * 9 + j) u (by rw [← hg, List.getElem?_append_right (Nat.le_add_right _ _), Nat.add_sub_cancel_left]; exact hj)
        rw [Addr.add_lit] at h2 ⊢
        rw [Nat.zero_add] at h2
        exact h2)
      have hn' := Lib.hid hn
      have hC' := Lib.hid hC
      have hC1' := Lib.hid hC1
      clear hn hC hC1
      go_enter Tryz.func71, Tryz.ntmps71
      go_wp2_with fail
      refine wp_region_mix 10 [(0, true), (1, true), (2, true), (3, true), (4, true), (5, true), (6, true), (7, true), (8, true), (9, false)] (fun w' => w'.cell? ⟨s, o, none⟩ = some (.slice (some ⟨g, 0, none⟩) (f + l.length) cap) ∧ w'.cell? ⟨s, o + 1, none⟩ = some (.int .i64 f)) (by kernel_rfl) (by kernel_rfl) (⟨c0, c1⟩) (fun _ _ d _ _ h => by cases d <;> exact h) ?_
      simp only [List.drop_succ_cons, List.drop_zero]
      iterate 9 (refine mix_head (o := _) (v := ?_) (by (simp only [List.getElem?_toArray, List.getElem?_cons_succ, List.getElem?_cons_zero]); rfl) (by rfl) (fun w' hS => ?_) ?_; rotate_left 1; (focus ((try dsimp only at hS); (try go_split_ands); go_simp; (try with_reducible rfl))); (try simp only [Act.put, List.setIfInBounds_toArray, List.set_cons_zero, List.set_cons_succ]))
      refine mix_mid (o := _) (by (simp only [List.getElem?_toArray, List.getElem?_cons_succ, List.getElem?_cons_zero]); rfl) ?_
      go_wp2_with fail
      refine hcp.mono ?_
      rintro e w1 ⟨g5, rfl, H2⟩
      clear hcp
      go_wp2_with fail
      refine mixQ_in ⟨((H2.b2.rd o).trans hC'.out), ((H2.b2.rd (o + 1)).trans hC1'.out)⟩ ?_
      refine mix_end ?_
      (try dsimp only)
      go_wp2_with fail
      go_ret
      exact ⟨g5, rfl, H2⟩
end
section
variable {w0 w : World} {R : List Pr} {s o T : Nat} {C : Array Value} {v : Value} {l : List WaitM} {f : Nat} {gar : List Value}

set_option maxRecDepth 20000 in
set_option maxHeartbeats 4000000 in
theorem qList_wait (H : Hd w0 (cel s T C :: Slc 37 3 v (f + l.length) (gar ++ flat l) :: R) w) (hC : C[o]? = some v) (hC1 : C[o + 1]? = some (.int .i64 f)) (hg : gar.length = f * 3) (hf : f ≤ 100000) (hn : l.length ≤ 100000) :
    Calls Tryz.prog 155 #[.pointer (some ⟨s, o, none⟩)] w fun e w' => ∃ g, e = .returned (.slice (some ⟨g, 0, none⟩) l.length l.length) ∧ Hd w0 (SlEC 37 g l.length l :: cel s T C :: Slc 37 3 v (f + l.length) (gar ++ flat l) :: R) w' := by
  have c0 := (H.rd o).trans hC
  have c1 := (H.rd (o + 1)).trans hC1
  rcases H.b2.slc with ⟨rfl, hz, -, -⟩ | ⟨g, cap, rfl, H1⟩
  · have hl0 : l.length = 0 := by omega
    have hl : l = [] := List.eq_nil_of_length_eq_zero hl0
    have hf0 : f = 0 := by omega
    subst hl
    subst hf0
    clear hl0 hz
    have HD := H.drew
    have hcp := copied_wait (l := ([] : List WaitM)) (A := none) (cap := 0) HD (by simp) rfl (by simp) (fun _ _ _ _ _ hj => by cases hj)
    have hC' := Lib.hid hC
    have hC1' := Lib.hid hC1
    clear hC hC1
    go_enter Tryz.func155, Tryz.ntmps155
    go_wp2_with fail
    refine wp_region_mix 10 [(0, true), (1, true), (2, true), (3, true), (4, true), (5, true), (6, true), (7, true), (8, true), (9, false)] (fun w' => w'.cell? ⟨s, o, none⟩ = some (.slice none 0 0) ∧ w'.cell? ⟨s, o + 1, none⟩ = some (.int .i64 (0 : Nat))) (by kernel_rfl) (by kernel_rfl) (⟨c0, c1⟩) (fun _ _ d _ _ h => by cases d <;> exact h) ?_
    simp only [List.drop_succ_cons, List.drop_zero]
    iterate 9 (refine mix_head (o := _) (v := ?_) (by (simp only [List.getElem?_toArray, List.getElem?_cons_succ, List.getElem?_cons_zero]); rfl) (by rfl) (fun w' hS => ?_) ?_; rotate_left 1; (focus ((try dsimp only at hS); (try go_split_ands); go_simp; (try with_reducible rfl))); (try simp only [Act.put, List.setIfInBounds_toArray, List.set_cons_zero, List.set_cons_succ]))
    refine mix_mid (o := _) (by (simp only [List.getElem?_toArray, List.getElem?_cons_succ, List.getElem?_cons_zero]); rfl) ?_
    go_wp2_with fail
    refine hcp.mono ?_
    rintro e w1 ⟨g5, rfl, H2⟩
    clear hcp
    go_wp2_with fail
    refine mixQ_in ⟨((H2.b2.rd o).trans hC'.out), ((H2.b2.rd (o + 1)).trans hC1'.out)⟩ ?_
    refine mix_end ?_
    (try dsimp only)
    go_wp2_with fail
    go_ret
    exact ⟨g5, rfl, H2⟩
  · obtain ⟨hxl, hnc, hcm, sp, hsp, H3⟩ := H1.slcC
    by_cases hcf : cap = f
    · have hl0 : l.length = 0 := by omega
      have hl : l = [] := List.eq_nil_of_length_eq_zero hl0
      subst hl
      subst hcf
      have m1 : ¬ (cap : Int) < 0 := by omega
      have m2 : (0 : Int) ≤ cap := by omega
      clear hl0
      have HD := H.drew
      have hcp := copied_wait (l := ([] : List WaitM)) (A := some ⟨g, 0, none⟩) (cap := 0) HD (by simp) rfl (by simp) (fun _ _ _ _ _ hj => by cases hj)
      have hC' := Lib.hid hC
      have hC1' := Lib.hid hC1
      clear hC hC1
      go_enter Tryz.func155, Tryz.ntmps155
      go_wp2_with fail
      refine wp_region_mix 10 [(0, true), (1, true), (2, true), (3, true), (4, true), (5, true), (6, true), (7, true), (8, true), (9, false)] (fun w' => w'.cell? ⟨s, o, none⟩ = some (.slice (some ⟨g, 0, none⟩) (cap + ([] : List WaitM).length) cap) ∧ w'.cell? ⟨s, o + 1, none⟩ = some (.int .i64 cap)) (by kernel_rfl) (by kernel_rfl) (⟨c0, c1⟩) (fun _ _ d _ _ h => by cases d <;> exact h) ?_
      simp only [List.drop_succ_cons, List.drop_zero]
      iterate 9 (refine mix_head (o := _) (v := ?_) (by (simp only [List.getElem?_toArray, List.getElem?_cons_succ, List.getElem?_cons_zero]); rfl) (by rfl) (fun w' hS => ?_) ?_; rotate_left 1; (focus ((try dsimp only at hS); (try go_split_ands); go_simp; (try with_reducible rfl))); (try simp only [Act.put, List.setIfInBounds_toArray, List.set_cons_zero, List.set_cons_succ]))
      refine mix_mid (o := _) (by (simp only [List.getElem?_toArray, List.getElem?_cons_succ, List.getElem?_cons_zero]); rfl) ?_
      go_wp2_with fail
      refine hcp.mono ?_
      rintro e w1 ⟨g5, rfl, H2⟩
      clear hcp
      go_wp2_with fail
      refine mixQ_in ⟨((H2.b2.rd o).trans hC'.out), ((H2.b2.rd (o + 1)).trans hC1'.out)⟩ ?_
      refine mix_end ?_
      (try dsimp only)
      go_wp2_with fail
      go_ret
      exact ⟨g5, rfl, H2⟩
    · have m1 : (f : Int) ≤ cap := by omega
      have m2 : ¬ (f : Int) < 0 := by omega
      have m3 : (0 : Int) ≤ f := by omega
      have m4 : f ≤ cap := by omega
      have m5 : ¬ cap - f = 0 := by omega
      have m6 : f + l.length - f = l.length := by omega
      have m7 : (f : Int) ≤ (f : Int) + l.length := by omega
      have m8 : f ≤ f + l.length := by omega
      have m9 : ¬ cap = f := hcf
      have HD := H.drew
      have hcp := copied_wait (l := l) (A := some ⟨g, f * 3, none⟩) (cap := cap - f) HD hn rfl (by simp) (by
        intro w1 h ad had j u hj
        obtain rfl := Option.some.inj had
        have h2 := h.b2.slc_news.2 _ rfl (f * 3 + j) u (by rw [← hg, List.getElem?_append_right (Nat.le_add_right _ _), Nat.add_sub_cancel_left]; exact hj)
        rw [Addr.add_lit] at h2 ⊢
        rw [Nat.zero_add] at h2
        exact h2)
      have hn' := Lib.hid hn
      have hC' := Lib.hid hC
      have hC1' := Lib.hid hC1
      clear hn hC hC1
      go_enter Tryz.func155, Tryz.ntmps155
      go_wp2_with fail
      refine wp_region_mix 10 [(0, true), (1, true), (2, true), (3, true), (4, true), (5, true), (6, true), (7, true), (8, true), (9, false)] (fun w' => w'.cell? ⟨s, o, none⟩ = some (.slice (some ⟨g, 0, none⟩) (f + l.length) cap) ∧ w'.cell? ⟨s, o + 1, none⟩ = some (.int .i64 f)) (by kernel_rfl) (by kernel_rfl) (⟨c0, c1⟩) (fun _ _ d _ _ h => by cases d <;> exact h) ?_
      simp only [List.drop_succ_cons, List.drop_zero]
      iterate 9 (refine mix_head (o := _) (v := ?_) (by (simp only [List.getElem?_toArray, List.getElem?_cons_succ, List.getElem?_cons_zero]); rfl) (by rfl) (fun w' hS => ?_) ?_; rotate_left 1; (focus ((try dsimp only at hS); (try go_split_ands); go_simp; (try with_reducible rfl))); (try simp only [Act.put, List.setIfInBounds_toArray, List.set_cons_zero, List.set_cons_succ]))
      refine mix_mid (o := _) (by (simp only [List.getElem?_toArray, List.getElem?_cons_succ, List.getElem?_cons_zero]); rfl) ?_
      go_wp2_with fail
      refine hcp.mono ?_
      rintro e w1 ⟨g5, rfl, H2⟩
      clear hcp
      go_wp2_with fail
      refine mixQ_in ⟨((H2.b2.rd o).trans hC'.out), ((H2.b2.rd (o + 1)).trans hC1'.out)⟩ ?_
      refine mix_end ?_
      (try dsimp only)
      go_wp2_with fail
      go_ret
      exact ⟨g5, rfl, H2⟩
end
end Go.Proofs.YtogcikilphakmaaGreatDoor
