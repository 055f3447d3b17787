/-
  Merged texts of one proof: Ke5, Ke6, Ke7, Ke8, InvT, KeT, Ke10.
-/
import Derived.Test.YtogcikilphakmaaGreatDoorG19
import Derived.Test.YtogcikilphakmaaGreatDoorG33
import Derived.Test.YtogcikilphakmaaGreatDoorG35
import Derived.Test.YtogcikilphakmaaGreatDoorG40
import Derived.Test.YtogcikilphakmaaGreatDoorG44
import Derived.Test.YtogcikilphakmaaGreatDoorG45
import Derived.Test.YtogcikilphakmaaGreatDoorG46
import Derived.Test.YtogcikilphakmaaGreatDoorG47

/-
  Package kernel: Register. Every kernel, every task.
-/
namespace Go.Proofs.YtogcikilphakmaaGreatDoor
open Go.RowKit Spl

def KeM.register (m : KeM) (x : TaskM) : KeM := if m.checkE x = 0 then KeM.event ⟨m.tk.added x, m.dp, m.ck.add x.p x.f x.g, m.ev⟩ (evRegister m.tk.rows.length) else m
theorem checkE_zero {m : KeM} {x : TaskM} (h : m.checkE x = 0) : checkTk m.tk x = 0 := by
  unfold KeM.checkE at h
  split at h
  · split at h
    · cases h
    · exact h
  · exact h
section
variable {w0 w : World} {R : List Pr} {S : Hp} {z : KeV} {m : KeM}
theorem keCheck [Lay w0 R] (H : Hd w0 (KeL z S m R) w) (h : KeC m) (x : TaskM) {nv : Value} (hs : Srg w0 R nv x.needs) (hL : x.needs.length ≤ 100000) :
    Calls Tryz.prog 26 #[.pointer (some ⟨z.k, 0, none⟩), taskA x nv] w fun e w' => e = .returned (.int .i64 (m.checkE x)) ∧ Hd w0 (KeL z S m R) w' := by
  unfold KeM.checkE
  by_cases h0 : checkTk m.tk x = 0
  · rw [if_pos (.inl h0), h0]
    exact keCheckB0 H h x hs hL h0
  · by_cases h25 : checkTk m.tk x = 25
    · rw [if_pos (.inr h25), h25]
      exact keCheckB25 H h x hs hL h25
    · rw [if_neg (by omega)]
      exact keCheckA H h x hs hL rfl h0 h25
set_option maxRecDepth 20000 in
set_option maxHeartbeats 4000000 in
theorem keRegisterNo [Lay w0 R] (H : Hd w0 (KeL z S m R) w) (h : KeC m) (x : TaskM) {nv : Value} (hs : Srg w0 R nv x.needs) (hL : x.needs.length ≤ 100000) {E : Int} (hE : m.checkE x = E) (h0 : ¬ E = 0) :
    Calls Tryz.prog 6 #[.pointer (some ⟨z.k, 0, none⟩), taskA x nv] w fun e w' => e = .returned (.tuple #[.int .i64 (-1), .int .i64 E]) ∧ Hd w0 (KeL z S m R) w' := by
  obtain ⟨a, c, hv⟩ := hs.form
  subst hv
  have H0 : Hd w0 _ (w.alloc (.cells #[.string x.nm, .int .i64 x.lv, .int .i64 x.fr, .slice a x.needs.length c, .string x.cd, .int .i64 x.p, .int .i64 x.f, .int .i64 x.g] 33)) := H.fol
  have H1 : Hd w0 (KeL z S m (cel w.heap.size 33 #[.string x.nm, .int .i64 x.lv, .int .i64 x.fr, .slice a x.needs.length c, .string x.cd, .int .i64 x.p, .int .i64 x.f, .int .i64 x.g] :: R)) _ := H0.re
  have hc := keCheck H1 h x (hs.of fun h => by exact (Hd.re h : Hd w0 R _)) hL
  rw [hE] at hc
  have hf := (H0.k w.heap.size).fact1
  simp only [Nat.reduceAdd] at hf
  go_split_ands
  replace hs := Lib.hid hs
  replace hE := Lib.hid hE
  go_enter Tryz.func6, Tryz.ntmps6
  go_wp2_with fail
  refine hc.mono ?_
  rintro e w1 ⟨rfl, H2⟩
  clear hc
  go_wp2_with fail
  go_ret2
  exact ⟨rfl, H2.re⟩
set_option maxRecDepth 20000 in
set_option maxHeartbeats 4000000 in
theorem keRegisterYes [Lay w0 R] (H : Hd w0 (KeL z S m R) w) (h : KeC m) (hk : KeR m) (x : TaskM) {nv : Value} (hs : Srg w0 R nv x.needs) (hL : x.needs.length ≤ 100000) (hE : m.checkE x = 0) :
    Calls Tryz.prog 6 #[.pointer (some ⟨z.k, 0, none⟩), taskA x nv] w fun e w' => e = .returned (.tuple #[.int .i64 m.tk.rows.length, .int .i64 0]) ∧ ∃ S', Le S S' ∧ Hd w0 (KeL z S' (KeM.event ⟨m.tk.added x, m.dp, m.ck.add x.p x.f x.g, m.ev⟩ (evRegister m.tk.rows.length)) R) w' := by
  obtain ⟨k, cl, rg, y⟩ := z
  obtain ⟨a, c, hv⟩ := hs.form
  subst hv
  have H0 : Hd w0 _ (w.alloc (.cells #[.string x.nm, .int .i64 x.lv, .int .i64 x.fr, .slice a x.needs.length c, .string x.cd, .int .i64 x.p, .int .i64 x.f, .int .i64 x.g] 33)) := H.fol
  have H1 : Hd w0 (KeL ⟨k, cl, rg, y⟩ S m (cel w.heap.size 33 #[.string x.nm, .int .i64 x.lv, .int .i64 x.fr, .slice a x.needs.length c, .string x.cd, .int .i64 x.p, .int .i64 x.f, .int .i64 x.g] :: R)) _ := H0.re
  have hc := keCheck H1 h x (hs.of fun h => by exact (Hd.re h : Hd w0 R _)) hL
  rw [hE] at hc
  have hct := checkE_zero hE
  have hadd := fun (w1 : World) (h1 : Hd w0 (TkP y.x.t m.tk S :: ro S :: cel w.heap.size 33 #[.string x.nm, .int .i64 x.lv, .int .i64 x.fr, .slice a x.needs.length c, .string x.cd, .int .i64 x.p, .int .i64 x.f, .int .i64 x.g] :: cel k 55 #[.pointer (some ⟨y.x.l, 0, none⟩), .pointer (some ⟨y.x.t, 0, none⟩), .pointer (some ⟨y.d, 0, none⟩), .pointer (some ⟨cl, 0, none⟩), .pointer (some ⟨rg, 0, none⟩)] :: Clock cl m.ck :: RingP rg m.ev :: cel y.d 78 #[.pointer (some ⟨y.x.l, 0, none⟩), .pointer (some ⟨y.x.t, 0, none⟩), .pointer (some ⟨y.c, 0, none⟩), .pointer (some ⟨y.q, 0, none⟩), .int .i64 m.dp.count] :: cel y.c 112 (coreRow y.c y.x.l) :: LkP y.x S m.dp.co :: WqP y.q m.dp.wq :: R) w1) => tkAdd h1 h.t x (hs.of fun h => by exact (Hd.re h : Hd w0 R _)) hL hct
  have hca := fun (w1 : World) (X : List Pr) (h1 : Hd w0 (Clock cl m.ck :: X) w1) => clkAdd h1 hk.k x.nm x.lv x.fr a x.needs.length c x.cd x.p x.f x.g
  have hev := fun (S' : Hp) (w1 : World) (X : List Pr) (h1 : Hd w0 (KeL ⟨k, cl, rg, y⟩ S' ⟨m.tk.added x, m.dp, m.ck.add x.p x.f x.g, m.ev⟩ X) w1) => keEvent h1 hk.e (evRegister m.tk.rows.length)
  have hf := (H0.k w.heap.size).fact1
  simp only [Nat.reduceAdd] at hf
  go_split_ands
  replace hs := Lib.hid hs
  replace hE := Lib.hid hE
  replace hct := Lib.hid hct
  replace hadd := Lib.hid hadd
  replace hca := Lib.hid hca
  replace hev := Lib.hid hev
  clear H H0 H1
  go_enter Tryz.func6, Tryz.ntmps6
  go_wp2_with fail
  refine hc.mono ?_
  rintro e w1 ⟨rfl, H2⟩
  clear hc
  have H2d : Hd w0 (TkP y.x.t m.tk S :: ro S :: cel w.heap.size 33 #[.string x.nm, .int .i64 x.lv, .int .i64 x.fr, .slice a x.needs.length c, .string x.cd, .int .i64 x.p, .int .i64 x.f, .int .i64 x.g] :: cel k 55 #[.pointer (some ⟨y.x.l, 0, none⟩), .pointer (some ⟨y.x.t, 0, none⟩), .pointer (some ⟨y.d, 0, none⟩), .pointer (some ⟨cl, 0, none⟩), .pointer (some ⟨rg, 0, none⟩)] :: Clock cl m.ck :: RingP rg m.ev :: cel y.d 78 #[.pointer (some ⟨y.x.l, 0, none⟩), .pointer (some ⟨y.x.t, 0, none⟩), .pointer (some ⟨y.c, 0, none⟩), .pointer (some ⟨y.q, 0, none⟩), .int .i64 m.dp.count] :: cel y.c 112 (coreRow y.c y.x.l) :: LkP y.x S m.dp.co :: WqP y.q m.dp.wq :: R) w1.drew := H2.drew.re
  have hac := hadd.out _ H2d
  go_wp2_with fail
  refine wp_region_mix 10 [(0, true), (1, true), (2, true), (3, true), (4, true), (5, false), (6, true), (7, true), (8, true), (9, true)] (fun w' => w'.cell? ⟨k, 1, none⟩ = some (.pointer (some ⟨y.x.t, 0, none⟩)) ∧ w'.cell? ⟨w.heap.size, 0, none⟩ = some (.string x.nm) ∧ w'.cell? ⟨w.heap.size, 1, none⟩ = some (.int .i64 x.lv) ∧ w'.cell? ⟨w.heap.size, 2, none⟩ = some (.int .i64 x.fr) ∧ w'.cell? ⟨w.heap.size, 3, none⟩ = some (.slice a x.needs.length c) ∧ w'.cell? ⟨w.heap.size, 4, none⟩ = some (.string x.cd) ∧ w'.cell? ⟨w.heap.size, 5, none⟩ = some (.int .i64 x.p) ∧ w'.cell? ⟨w.heap.size, 6, none⟩ = some (.int .i64 x.f) ∧ w'.cell? ⟨w.heap.size, 7, none⟩ = some (.int .i64 x.g)) (by kernel_rfl) (by kernel_rfl) (⟨(show _ = some _ from (H2d.k k).ce 1 rfl), (show _ = some _ from (H2d.k w.heap.size).ce 0 rfl), (show _ = some _ from (H2d.k w.heap.size).ce 1 rfl), (show _ = some _ from (H2d.k w.heap.size).ce 2 rfl), (show _ = some _ from (H2d.k w.heap.size).ce 3 rfl), (show _ = some _ from (H2d.k w.heap.size).ce 4 rfl), (show _ = some _ from (H2d.k w.heap.size).ce 5 rfl), (show _ = some _ from (H2d.k w.heap.size).ce 6 rfl), (show _ = some _ from (H2d.k w.heap.size).ce 7 rfl)⟩) (fun _ _ d _ _ h => by cases d <;> exact h) ?_
  simp only [List.drop_succ_cons, List.drop_zero]
  iterate 5 (refine mix_head (o := _) (v := ?_) (by (simp only [List.getElem?_toArray, List.getElem?_cons_succ, List.getElem?_cons_zero]); rfl) (by rfl) (fun w' hS => ?_) ?_; rotate_left 1; (focus ((try dsimp only at hS); (try go_split_ands); go_simp; (try with_reducible rfl))); (try simp only [Act.put, List.setIfInBounds_toArray, List.set_cons_zero, List.set_cons_succ]))
  refine mix_mid (o := _) (by (simp only [List.getElem?_toArray, List.getElem?_cons_succ, List.getElem?_cons_zero]); rfl) ?_
  go_wp2_with fail
  refine hac.mono ?_
  rintro e w2 ⟨rfl, S', hle, H3⟩
  clear hac
  go_wp2_with fail
  refine mixQ_in ⟨(show _ = some _ from (H3.k k).ce 1 rfl), (show _ = some _ from (H3.k w.heap.size).ce 0 rfl), (show _ = some _ from (H3.k w.heap.size).ce 1 rfl), (show _ = some _ from (H3.k w.heap.size).ce 2 rfl), (show _ = some _ from (H3.k w.heap.size).ce 3 rfl), (show _ = some _ from (H3.k w.heap.size).ce 4 rfl), (show _ = some _ from (H3.k w.heap.size).ce 5 rfl), (show _ = some _ from (H3.k w.heap.size).ce 6 rfl), (show _ = some _ from (H3.k w.heap.size).ce 7 rfl)⟩ ?_
  iterate 4 (refine mix_head (o := _) (v := ?_) (by (simp only [List.getElem?_toArray, List.getElem?_cons_succ, List.getElem?_cons_zero]); rfl) (by rfl) (fun w' hS => ?_) ?_; rotate_left 1; (focus ((try dsimp only at hS); (try go_split_ands); go_simp; (try with_reducible rfl))); (try simp only [Act.put, List.setIfInBounds_toArray, List.set_cons_zero, List.set_cons_succ]))
  refine mix_end ?_
  (try dsimp only)
  have H3d := H3.drew
  have hcc := hca.out _ _ (H3d.k cl)
  go_wp2_with fail
  refine wp_region_mix 5 [(0, true), (1, true), (2, true), (3, true), (4, true)] (fun w' => w'.cell? ⟨k, 3, none⟩ = some (.pointer (some ⟨cl, 0, none⟩)) ∧ w'.cell? ⟨w.heap.size, 0, none⟩ = some (.string x.nm) ∧ w'.cell? ⟨w.heap.size, 1, none⟩ = some (.int .i64 x.lv) ∧ w'.cell? ⟨w.heap.size, 2, none⟩ = some (.int .i64 x.fr) ∧ w'.cell? ⟨w.heap.size, 3, none⟩ = some (.slice a x.needs.length c) ∧ w'.cell? ⟨w.heap.size, 4, none⟩ = some (.string x.cd) ∧ w'.cell? ⟨w.heap.size, 5, none⟩ = some (.int .i64 x.p) ∧ w'.cell? ⟨w.heap.size, 6, none⟩ = some (.int .i64 x.f) ∧ w'.cell? ⟨w.heap.size, 7, none⟩ = some (.int .i64 x.g)) (by kernel_rfl) (by kernel_rfl) (⟨(show _ = some _ from (H3d.k k).ce 3 rfl), (show _ = some _ from (H3d.k w.heap.size).ce 0 rfl), (show _ = some _ from (H3d.k w.heap.size).ce 1 rfl), (show _ = some _ from (H3d.k w.heap.size).ce 2 rfl), (show _ = some _ from (H3d.k w.heap.size).ce 3 rfl), (show _ = some _ from (H3d.k w.heap.size).ce 4 rfl), (show _ = some _ from (H3d.k w.heap.size).ce 5 rfl), (show _ = some _ from (H3d.k w.heap.size).ce 6 rfl), (show _ = some _ from (H3d.k w.heap.size).ce 7 rfl)⟩) (fun _ _ d _ _ h => by cases d <;> exact h) ?_
  simp only [List.drop_succ_cons, List.drop_zero]
  iterate 5 (refine mix_head (o := _) (v := ?_) (by (simp only [List.getElem?_toArray, List.getElem?_cons_succ, List.getElem?_cons_zero]); rfl) (by rfl) (fun w' hS => ?_) ?_; rotate_left 1; (focus ((try dsimp only at hS); (try go_split_ands); go_simp; (try with_reducible rfl))); (try simp only [Act.put, List.setIfInBounds_toArray, List.set_cons_zero, List.set_cons_succ]))
  refine mix_end ?_
  (try dsimp only)
  go_wp2_with fail
  refine hcc.mono ?_
  rintro e w3 ⟨rfl, H4⟩
  clear hcc H3 H3d
  have H5 := LkP.mono (H4.b9) hle
  have hec := hev.out S' _ (cel w.heap.size 33 #[.string x.nm, .int .i64 x.lv, .int .i64 x.fr, .slice a x.needs.length c, .string x.cd, .int .i64 x.p, .int .i64 x.f, .int .i64 x.g] :: R) H5.re
  go_wp2_with fail
  refine hec.mono ?_
  rintro e w4 ⟨rfl, H6⟩
  clear hec
  go_wp2_with fail
  go_ret2
  exact ⟨rfl, S', hle, H6.re⟩
theorem keRegister [Lay w0 R] (H : Hd w0 (KeL z S m R) w) (h : KeC m) (hk : KeR m) (x : TaskM) {nv : Value} (hs : Srg w0 R nv x.needs) (hL : x.needs.length ≤ 100000) :
    Calls Tryz.prog 6 #[.pointer (some ⟨z.k, 0, none⟩), taskA x nv] w fun e w' => e = .returned (.tuple #[.int .i64 (if m.checkE x = 0 then m.tk.rows.length else -1), .int .i64 (m.checkE x)]) ∧ ∃ S', Le S S' ∧ Hd w0 (KeL z S' (m.register x) R) w' := by
  unfold KeM.register
  by_cases h0 : m.checkE x = 0
  · rw [if_pos h0, if_pos h0, h0]
    exact keRegisterYes H h hk x hs hL h0
  · rw [if_neg h0, if_neg h0]
    refine (keRegisterNo H h x hs hL rfl h0).mono ?_
    rintro e w1 ⟨rfl, H1⟩
    exact ⟨rfl, S, Le.refl S, H1⟩
end
end Go.Proofs.YtogcikilphakmaaGreatDoor

/-
  Package kernel: Step as the model says; New. Every kernel.
-/
namespace Go.Proofs.YtogcikilphakmaaGreatDoor
open Go.RowKit Spl

def KeM.step (m : KeM) : DidM × KeM :=
  let d := (m.dp.step m.tk).1
  let m1 : KeM := ⟨m.tk, (m.dp.step m.tk).2, m.ck, m.ev⟩
  let m2 := if d.started then m1.event (evStart d.start.task d.start.job) else m1
  (d, if d.idle then m2.event evIdle else
    if d.done.fin then (m2.event (evStep d.done.task d.done.job d.done.op d.done.why)).event (evFinish d.done.task d.done.job) else m2.event (evStep d.done.task d.done.job d.done.op d.done.why))
theorem newTk_ok {words : Int} {units : List Int} (hc : newTk words units = 0) : TkM.Ok ⟨words, units, [], []⟩ := by
  unfold newTk at hc
  by_cases h1 : words < 0 ∨ 65536 < words
  · rw [if_pos h1] at hc; cases hc
  · rw [if_neg h1] at hc
    by_cases h2 : (16 : Int) < units.length
    · rw [if_pos h2] at hc; cases hc
    · rw [if_neg h2] at hc
      by_cases h3 : units.all (fun x => decide (1 ≤ x) && decide (x ≤ 255)) = true
      · refine ⟨by dsimp only; omega, by dsimp only; omega, fun x hx => by simpa using (List.all_eq_true.1 h3 x hx), by simp, ?_, ?_, ?_, ?_, .nil, rfl⟩
        all_goals (intro r hr; cases hr)
      · rw [if_neg h3] at hc; cases hc
section
variable {w0 w : World} {R : List Pr} {S : Hp} {z : KeV} {m : KeM}
theorem keStep (H : Hd w0 (KeL z S m R) w) (hs : DpS m.tk m.dp) (he : m.ev.Ok) (hg : m.ev.gone + 4 ≤ 4611686018427387904) :
    Calls Tryz.prog 10 #[.pointer (some ⟨z.k, 0, none⟩)] w fun e w' => e = .returned (.agg (didA m.step.1)) ∧ ∃ S', Le S S' ∧ Hd w0 (KeL z S' m.step.2 R) w' := by
  obtain ⟨⟨d, dp'⟩, hd⟩ : ∃ d, m.dp.step m.tk = d := ⟨_, rfl⟩
  unfold KeM.step
  rw [hd]
  obtain ⟨st, ⟨sj, st2, sl⟩, idl, ⟨dj, dt, ⟨ok, or, on, ov⟩, why, fin⟩⟩ := d
  cases st <;> cases idl
  · cases fin
    · exact keStepB H hs he hg hd
    · exact keStepC H hs he hg hd
  · exact keStepA H hs he hg hd
  · cases fin
    · exact keStepE H hs he hg hd
    · exact keStepF H hs he hg hd
  · exact keStepD H hs he hg hd
set_option maxRecDepth 20000 in
set_option maxHeartbeats 4000000 in
theorem keNew (H : Hd w0 (ro S :: R) w) {words : Int} {units : List Int} {v : Value} (hs : Srg w0 (ro S :: R) v units) (hc : newTk words units = 0) :
    Calls Tryz.prog 5 #[.agg #[.int .i64 words, v]] w fun e w' => ∃ z : KeV, e = .returned (.tuple #[.pointer (some ⟨z.k, 0, none⟩), .int .i64 0]) ∧ Hd w0 (KeL z S (KeM.new words units) R) w' := by
  obtain ⟨a, c, hv⟩ := hs.form
  subst hv
  have htk : TkM.Ok ⟨words, units, [], []⟩ := newTk_ok hc
  have H0 : Hd w0 _ (w.alloc (.cells #[.int .i64 words, .slice a units.length c] 28)) := H.fol
  have h1 := tkNew (S := S) H0 (hs.of fun h => by exact (Hd.re h : Hd w0 (ro S :: R) _)) hc
  have hf := H0.facts
  simp only [Nat.reduceAdd] at hf
  go_split_ands
  have hdp := fun (t : Nat) (w1 : World) (X : List Pr) (h : Hd w0 (TkP t ⟨words, units, [], []⟩ S :: ro S :: X) w1) => dpNew h htk
  replace hdp := Lib.hid hdp
  replace htk := Lib.hid htk
  replace hs := Lib.hid hs
  go_enter Tryz.func5, Tryz.ntmps5
  go_wp2_with fail
  refine h1.mono ?_
  rintro e w1 ⟨t, rfl, H1⟩
  clear h1 H0
  have h2 := hdp.out t _ (cel w.heap.size 28 #[.int .i64 words, .slice a units.length c] :: R) H1.re
  go_wp2_with fail
  refine h2.mono ?_
  rintro e w2 ⟨y, hy, rfl, H2⟩
  clear h2 H1
  have h3 := ringNew H2
  go_wp2_with fail
  refine h3.mono ?_
  rintro e w3 ⟨rg, rfl, H3⟩
  clear h3 H2
  have h4 := fun (w1 : World) (X : List Pr) (h : Hd w0 X w1) => (show Calls Tryz.prog 25 #[] w1 (fun e w' => ∃ c, e = .returned (.pointer (some ⟨c, 0, none⟩)) ∧ Hd w0 (Clock c ⟨0, []⟩ :: X) w') from clkNew h)
  replace h4 := h4 _ _ H3.drew
  have k0 := (show _ = some (Value.pointer (some ⟨y.x.l, 0, none⟩)) from (H3.drew.k y.d).ce 0 rfl)
  go_wp2_with fail
  refine wp_region_mix 8 [(0, true), (1, true), (2, true), (3, true), (4, true), (5, true), (7, true), (6, false)] (fun w' => w'.cell? ⟨y.d, 0, none⟩ = some (.pointer (some ⟨y.x.l, 0, none⟩))) (by kernel_rfl) (by kernel_rfl) (k0) (fun _ _ d _ _ h => by cases d <;> exact h) ?_
  simp only [List.drop_succ_cons, List.drop_zero]
  iterate 7 (refine mix_head (o := _) (v := ?_) (by (simp only [List.getElem?_toArray, List.getElem?_cons_succ, List.getElem?_cons_zero]); rfl) (by rfl) (fun w' hS => ?_) ?_; rotate_left 1; (focus ((try dsimp only at hS); (try go_split_ands); go_simp; (try with_reducible rfl))); (try simp only [Act.put, List.setIfInBounds_toArray, List.set_cons_zero, List.set_cons_succ]))
  refine mix_mid (o := _) (by (simp only [List.getElem?_toArray, List.getElem?_cons_succ, List.getElem?_cons_zero]); rfl) ?_
  go_wp2_with fail
  refine h4.mono ?_
  rintro e w4 ⟨cl, rfl, H4⟩
  clear h4
  go_wp2_with fail
  refine mixQ_in (show _ = some (Value.pointer (some ⟨y.x.l, 0, none⟩)) from (H4.k y.d).ce 0 rfl) ?_
  refine mix_end ?_
  (try dsimp only)
  go_wp2_with fail
  go_ret2
  refine ⟨⟨w4.heap.size, cl, rg, y⟩, rfl, ?_⟩
  subst hy
  have H5 : Hd w0 _ (w4.alloc (.cells #[.pointer (some ⟨y.x.l, 0, none⟩), .pointer (some ⟨y.x.t, 0, none⟩), .pointer (some ⟨y.d, 0, none⟩), .pointer (some ⟨cl, 0, none⟩), .pointer (some ⟨rg, 0, none⟩)] 55)) := H4.fol
  have H6 : Hd w0 (cel w4.heap.size 55 #[.pointer (some ⟨y.x.l, 0, none⟩), .pointer (some ⟨y.x.t, 0, none⟩), .pointer (some ⟨y.d, 0, none⟩), .pointer (some ⟨cl, 0, none⟩), .pointer (some ⟨rg, 0, none⟩)] :: Clock cl ⟨0, []⟩ :: RingP rg ⟨[], 4096, 0⟩ :: DpL y ⟨words, units, [], []⟩ S (DpM.new ⟨words, units, [], []⟩) R) _ := H5.re
  exact H6
end
end Go.Proofs.YtogcikilphakmaaGreatDoor

/-
  Package kernel: Events, Dropped, Now, Run of no number. Ring.List. Every kernel.
-/
namespace Go.Proofs.YtogcikilphakmaaGreatDoor
open Go.RowKit Spl

section
variable {w0 w : World} {R : List Pr} {S : Hp} {z : KeV} {m : KeM}
set_option maxRecDepth 20000 in
set_option maxHeartbeats 1600000 in
theorem ringList {b : Nat} {r : RingM} (H : Hd w0 (RingP b r :: R) w) (hm : r.Ok) :
    Calls Tryz.prog 41 #[.pointer (some ⟨b, 0, none⟩)] w fun e w' => ∃ v, e = .returned v ∧ Hd w0 (SlE 65 v r.l :: RingP b r :: R) w' := by
  obtain ⟨v, f, gar, hq, H1⟩ := RingP.opened H
  have h1 := hm.l
  have h2 := hm.m1
  have hc := qList_ev (o := 0) H1 rfl rfl hq.gar (by have := hq.le; omega) (by omega)
  replace hq := Lib.hid hq
  go_enter Tryz.func41, Tryz.ntmps41
  go_wp2_with fail
  refine hc.mono ?_
  rintro e w1 ⟨g, rfl, H2⟩
  clear hc
  go_wp2_with fail
  go_ret
  refine ⟨_, rfl, ?_⟩
  have H3 := H2.slc_mk
  exact (RingP.shut H3.d3 hq.out).b2
set_option maxRecDepth 20000 in
set_option maxHeartbeats 1600000 in
theorem keEvents (H : Hd w0 (KeL z S m R) w) (hr : m.ev.Ok) :
    Calls Tryz.prog 18 #[.pointer (some ⟨z.k, 0, none⟩)] w fun e w' => ∃ v, e = .returned v ∧ Hd w0 (SlE 65 v m.ev.l :: KeL z S m R) w' := by
  obtain ⟨k, cl, rg, y⟩ := z
  have hc := ringList (H.k rg) hr
  have k4 := (show _ = some (Value.pointer (some ⟨rg, 0, none⟩)) from (H.k k).ce 4 rfl)
  go_enter Tryz.func18, Tryz.ntmps18
  go_wp2_with fail
  refine hc.mono ?_
  rintro e w1 ⟨v, rfl, H2⟩
  clear hc
  go_wp2_with fail
  go_ret
  exact ⟨v, rfl, H2.re⟩
set_option maxRecDepth 20000 in
set_option maxHeartbeats 1600000 in
theorem keDropped (H : Hd w0 (KeL z S m R) w) :
    Calls Tryz.prog 19 #[.pointer (some ⟨z.k, 0, none⟩)] w fun e w' => e = .returned (.int .i64 m.ev.gone) ∧ w = w' := by
  obtain ⟨k, cl, rg, y⟩ := z
  have hc := ringDropped (H.k rg)
  have k4 := (show _ = some (Value.pointer (some ⟨rg, 0, none⟩)) from (H.k k).ce 4 rfl)
  go_enter Tryz.func19, Tryz.ntmps19
  go_wp2_with fail
  refine hc.mono ?_
  rintro e w1 ⟨rfl, rfl⟩
  clear hc
  go_wp2_with fail
  go_ret
  exact ⟨rfl, rfl⟩
set_option maxRecDepth 20000 in
set_option maxHeartbeats 1600000 in
theorem keNow (H : Hd w0 (KeL z S m R) w) :
    Calls Tryz.prog 21 #[.pointer (some ⟨z.k, 0, none⟩)] w fun e w' => e = .returned (.int .i64 m.ck.now) ∧ w = w' := by
  obtain ⟨k, cl, rg, y⟩ := z
  have hc := clkNow (H.k cl)
  have k4 := (show _ = some (Value.pointer (some ⟨cl, 0, none⟩)) from (H.k k).ce 3 rfl)
  go_enter Tryz.func21, Tryz.ntmps21
  go_wp2_with fail
  refine hc.mono ?_
  rintro e w1 ⟨rfl, rfl⟩
  clear hc
  go_wp2_with fail
  go_ret
  exact ⟨rfl, rfl⟩
end
end Go.Proofs.YtogcikilphakmaaGreatDoor

/-
  kernel.Left, Run. Every kernel.
-/
namespace Go.Proofs.YtogcikilphakmaaGreatDoor
open Go.RowKit Spl

attribute [local go_sem] Oper.semAt_some
def KeM.left (m : KeM) : Int := m.dp.left m.tk
section
variable {w0 w : World} {R : List Pr} {S : Hp} {m : KeM} {z : KeV}
set_option maxRecDepth 20000 in
theorem keLeft (H : Hd w0 (KeL z S m R) w) (ht : m.tk.Ok) (hq : m.dp.wq.Ok) (hn : m.dp.co.jobs.length ≤ 1000) (hj : ∀ j ∈ m.dp.co.jobs, LOk m.tk j.task j.pos) (hw : ∀ x ∈ listQ m.dp.wq.qs, LOk m.tk x.task 0) :
    Calls Tryz.prog 17 #[.pointer (some ⟨z.k, 0, none⟩)] w fun e w' => e = .returned (.int .i64 m.left) ∧ Hd w0 (KeL z S m R) w' := by
  obtain ⟨k, cl, rg, y⟩ := z
  have hc := dpLeft (show Hd w0 (DpL y m.tk S m.dp (cel k 55 #[.pointer (some ⟨y.x.l, 0, none⟩), .pointer (some ⟨y.x.t, 0, none⟩), .pointer (some ⟨y.d, 0, none⟩), .pointer (some ⟨cl, 0, none⟩), .pointer (some ⟨rg, 0, none⟩)] :: Clock cl m.ck :: RingP rg m.ev :: R)) w from H.re) ht hq hn hj hw
  have k4 := (show _ = some (Value.pointer (some ⟨y.d, 0, none⟩)) from (H.k k).ce 2 rfl)
  clear H
  go_enter Tryz.func17, Tryz.ntmps17
  go_wp2_with fail
  refine hc.mono ?_
  rintro e w1 ⟨rfl, H1⟩
  clear hc
  go_wp2_with fail
  go_ret
  exact ⟨rfl, H1.re⟩
theorem wpList_field_row {P : Program} {ops : Array Oper} {rest : List Oper} {o : Oper} {a : Act} {Q : Exit → Act → World → Prop} (hg : o.guard = none) (t : TypeId) (x : Operand) (i : Nat) (ho : o.op = .field t x i) (v : Value)
    (hv : (Instr.field t (a.eval x) i).run P w = .ok v w) (h : wpList P ops Q rest (a.put o.dst v) w) : wpList P ops Q (o :: rest) a w := by
  refine wpList_plain hg fun K hK => ?_
  unfold Oper.wp execOp
  simp only [ho]
  have e : ∀ (m : Sem Value), m.run P w = .ok v w → Sem.run P (do let y ← m; pure (Next.value y)) w = .ok (.value v) w := by
    intro m hm
    simp [hm, Result.andThen]
  have h2 := e _ hv
  show Oper.upon P o a K Q _
  rw [h2]
  exact hK _ _ h
/-- Run: n steps at most, until idle. -/
def KeM.run : Nat → KeM → Nat × KeM
  | 0, m => (0, m)
  | n + 1, m => if m.step.1.idle then (0, m.step.2) else ((m.step.2.run n).1 + 1, (m.step.2.run n).2)
set_option maxRecDepth 20000 in
set_option maxHeartbeats 1600000 in
theorem keRun {n i : Nat} (P : Nat → KeM → Prop) (hP : ∀ k m, k < i + n → P k m → DpS m.tk m.dp ∧ m.ev.Ok ∧ m.ev.gone + 4 ≤ 4611686018427387904) (hS : ∀ k m, k < i + n → P k m → P (k + 1) m.step.2) (H : Hd w0 (KeL z S m R) w) (hm : P i m) (hn : n ≤ 4096) :
    Calls Tryz.prog 14 #[.pointer (some ⟨z.k, 0, none⟩), .int .i64 n] w fun e w' => e = .returned (.tuple #[.int .i64 (m.run n).1, .int .i64 0]) ∧ ∃ S', Le S S' ∧ Hd w0 (KeL z S' (m.run n).2 R) w' := by
  have n1 : ¬ (n : Int) < 0 := by omega
  have n2 : ¬ (4096 : Int) < n := by omega
  obtain ⟨T, hT⟩ : ∃ T, m.run n = T := ⟨_, rfl⟩
  rw [hT]
  go_enter Tryz.func14, Tryz.ntmps14
  go_wp2_with fail
  go_loopw [14] (fun y wr => ∃ (k : Nat) (mk : KeM) (Sk : Hp), k ≤ n ∧ y = .int .i64 k ∧ T = ((mk.run (n - k)).1 + k, (mk.run (n - k)).2) ∧ P (i + k) mk ∧ Le S Sk ∧ Hd w0 (KeL z Sk mk R) wr) (fun y _ => n - (intOf y).toNat)
  case atStart => exact ⟨0, m, S, Nat.zero_le _, rfl, hT.symm, hm, fun _ _ h => h, H⟩
  case round =>
    obtain ⟨k, mk, Sk, hk, rfl, hTk, hPk, hle, H1⟩ := hrel
    clear H hT
    by_cases hlt : k < n
    · obtain ⟨p1, p2, p3⟩ := hP _ _ (by omega) hPk
      have hst := keStep H1 p1 p2 p3
      have hPn := hS _ _ (by omega) hPk
      obtain ⟨q, hq⟩ : ∃ q, n - k = q + 1 := ⟨n - k - 1, by omega⟩
      rw [hq] at hTk
      unfold KeM.run at hTk
      obtain ⟨⟨D, m2⟩, hD⟩ : ∃ D, mk.step = D := ⟨_, rfl⟩
      rw [hD] at hTk hPn hst
      dsimp only at hTk hPn hst
      have n3 : (k : Int) < n := by omega
      have g6 : IntKind.i64.wrap ((k : Int) + 1) = (k : Int) + 1 := IntWalk.i64_in _ (by omega)
      clear p1 p2 p3 H1 hD hPk
      obtain ⟨ds, dw, di, dd⟩ := D
      dsimp only at hTk hst
      cases di
      · rw [if_neg (by simp)] at hTk
        replace hTk := Lib.hid hTk
        replace hPn := Lib.hid hPn
        replace hq := Lib.hid hq
        go_wp2_with fail
        refine hst.mono ?_
        rintro e w1 ⟨rfl, S2, hle2, H2⟩
        clear hst
        (try dsimp only [didA])
        go_wp2_with (refine wpList_field_row rfl _ _ _ rfl (.bool false) rfl ?_)
        go_roundw
        case rel => exact ⟨k + 1, m2, S2, by omega, by simp, by rw [hTk.out, show n - (k + 1) = q by have := hq.out; omega]; simp; omega, by rw [← Nat.add_assoc]; exact hPn.out, fun _ _ h => hle2 _ _ (hle _ _ h), H2⟩
        case measure => simp [intOf]; omega
      · rw [if_pos rfl] at hTk
        subst hTk
        go_wp2_with fail
        refine hst.mono ?_
        rintro e w1 ⟨rfl, S2, hle2, H2⟩
        clear hst
        (try dsimp only [didA])
        go_wp2_with (refine wpList_field_row rfl _ _ _ rfl (.bool true) rfl ?_)
        go_ret2
        exact ⟨by simp, S2, fun _ _ h => hle2 _ _ (hle _ _ h), H2⟩
    · obtain rfl : k = n := by omega
      rw [Nat.sub_self] at hTk
      unfold KeM.run at hTk
      subst hTk
      go_wp2_with fail
      go_ret2
      exact ⟨by simp, Sk, hle, H1⟩
end
end Go.Proofs.YtogcikilphakmaaGreatDoor

/-
  The task table's plain law: a task that may be registered keeps it. No program in sight.
-/
namespace Go.Proofs.YtogcikilphakmaaGreatDoor
open Go.RowKit Spl

structure TkI (tk : TkM) : Prop where
  t : tk.Ok
  st : ∀ r ∈ tk.rows, StepsLaw r.steps
  b : boundM tk.rows ≤ tk.words
theorem checkTk_all {m : TkM} {x : TaskM} (h : checkTk m x = 0) : (stepsOf x.cd).2 = 0 ∧ legalM x.nm = true ∧ rowAt m.names x.nm = none ∧ ((1 ≤ x.lv ∧ x.lv ≤ 32) ∧ 0 ≤ x.fr ∧ x.fr ≤ 4096) ∧ timesOk x.p x.f x.g = true ∧ needsM m.units x.needs none = 0 ∧ m.rows.length < 64 ∧ withM m.rows x.lv x.fr ≤ m.words := by
  unfold checkTk at h
  split at h
  · rename_i h1
    split at h
    · rename_i h2
      split at h
      · cases h
      · rename_i h3
        split at h
        · cases h
        · rename_i h4
          split at h
          · rename_i h5
            split at h
            · cases h
            · rename_i h6
              split at h
              · cases h
              · rename_i h7
                refine ⟨h1, h2, ?_, by omega, ?_, h5, by omega, by omega⟩
                · cases hr : rowAt m.names x.nm with
                  | none => rfl
                  | some y => rw [hr] at h3; simp at h3
                · cases ht : timesOk x.p x.f x.g with
                  | true => rfl
                  | false => exact absurd (.inr (.inr (.inr (.inr ht)))) h4
          · rename_i h5; exact absurd h h5
    · cases h
  · rename_i h1; exact absurd h h1
theorem needsM_all {u : List Int} : ∀ {l : List NeedM} {pr : Option Int} (_ : needsM u l pr = 0), (∀ x ∈ l, 0 ≤ x.res ∧ x.res < u.length ∧ 1 ≤ x.units ∧ x.units ≤ u[x.res.toNat]?.getD 0) ∧ (l.length : Int) ≤ u.length ∧ (∀ p, pr = some p → 0 ≤ p → p < u.length → (l.length : Int) + p + 1 ≤ u.length)
  | [], pr, h => ⟨fun x hx => (by cases hx), (by simp), fun p _ _ _ => (by simp; omega)⟩
  | x :: l, pr, h => by
    rw [needsM_cons] at h
    split at h
    · cases h
    · rename_i h1
      have h2 : needsM u l (some x.res) = 0 ∧ (∀ p, pr = some p → p < x.res) := by
        cases pr with
        | none => exact ⟨by simpa using h, fun p hp => (by cases hp)⟩
        | some p =>
          by_cases hle : x.res ≤ p
          · simp [hle] at h
          · exact ⟨by simpa [hle] using h, fun q hq => (by injection hq with hq; omega)⟩
      obtain ⟨a, b, c⟩ := needsM_all (l := l) h2.1
      have h3 := c x.res rfl (by omega) (by omega)
      refine ⟨fun y hy => ?_, by rw [List.length_cons]; push_cast; omega, fun p hp _ _ => ?_⟩
      · rcases List.mem_cons.1 hy with rfl | hy
        · omega
        · exact a y hy
      · have := h2.2 p hp
        rw [List.length_cons]; push_cast; omega
theorem stepsM_len {p : List OpM} : (stepsM p).1.length ≤ 4096 := by
  unfold stepsM
  split
  · split
    · simp
    · unfold walkM
      have h := partW_le (p := p) (ends := endsOf p) (p.length + 1) 0 p.length ⟨[], false⟩ (by simp)
      split
      · exact stepW_le h
      · exact h
  · simp
theorem stepsOf_law {s : ByteArray} (h : (stepsOf s).2 = 0) : StepsLaw (stepsOf s).1 ∧ (stepsOf s).1.length ≤ 4096 := by
  unfold stepsOf at h ⊢
  split at h
  · rename_i h1
    rw [if_pos h1]
    exact ⟨stepsM_law h, stepsM_len⟩
  · rename_i h1
    exact absurd h h1
theorem TkI.added {m : TkM} (h : TkI m) {x : TaskM} (hc : checkTk m x = 0) : TkI (m.added x) := by
  obtain ⟨h1, h2, h3, h4, h5, h6, h7, h8⟩ := checkTk_all hc
  obtain ⟨n1, n2, -⟩ := needsM_all h6
  obtain ⟨s1, s2⟩ := stepsOf_law h1
  have hu := h.t.u
  have all : ∀ {P : RowM → Prop} (_ : ∀ r ∈ m.rows, P r) (_ : P ⟨x, (stepsOf x.cd).1⟩), ∀ r ∈ (m.added x).rows, P r := by
    intro P a b r hr
    rcases List.mem_append.1 hr with hr | hr
    · exact a r hr
    · rw [List.mem_singleton] at hr; subst hr; exact b
  refine ⟨⟨h.t.w, h.t.u, h.t.uv, ?_, all h.t.lv (by exact h4.1), all h.t.fr (by exact h4.2), all h.t.nd ?_, all h.t.st s2, sorted_ins h.t.nm rfl h3, ?_⟩, all h.st s1, ?_⟩
  · show (m.rows ++ [_]).length ≤ 64
    rw [List.length_append, List.length_singleton]; omega
  · dsimp only
    refine ⟨by omega, fun y hy => ?_⟩
    obtain ⟨a, b, c, d⟩ := n1 y hy
    refine ⟨a, b, c, ?_⟩
    have hlt : y.res.toNat < m.units.length := by omega
    rw [List.getElem?_eq_getElem hlt, Option.getD_some] at d
    have := h.t.uv _ (List.getElem_mem hlt)
    omega
  · show (m.names.take _ ++ _ :: m.names.drop _).length = (m.rows ++ [_]).length
    have := h.t.nn
    rw [List.length_append, List.length_cons, List.length_append, List.length_singleton, List.length_take, List.length_drop]
    omega
  · show boundM (m.rows ++ [_]) ≤ m.words
    rw [bound_with (r := ⟨x, (stepsOf x.cd).1⟩) h4]
    exact h8
theorem TkI.new {words : Int} {units : List Int} (hc : newTk words units = 0) : TkI ⟨words, units, [], []⟩ := by
  refine ⟨newTk_ok hc, fun r hr => (by cases hr), ?_⟩
  have hw : 0 ≤ words := by
    unfold newTk at hc
    split at hc
    · cases hc
    · omega
  have e : boundM [] = 0 := by rfl
  show boundM [] ≤ words
  rw [e]; exact hw
end Go.Proofs.YtogcikilphakmaaGreatDoor

/-
  kernel.Tick: the model. No program in sight.
-/
namespace Go.Proofs.YtogcikilphakmaaGreatDoor
open Go.RowKit Spl

/-- What a periodic task's release brings: the new job, if there is room. -/
def KeM.gets (m : KeM) (i : Nat) : List WaitM := if m.dp.releaseE m.tk i = 0 then [⟨m.dp.count, i, (m.tk.rows[i]?.map (·.t.lv)).getD 0⟩] else []
def KeM.dues : KeM → List Int → List WaitM × KeM
  | m, [] => ([], m)
  | m, i :: l => (m.gets i.toNat ++ ((m.due i.toNat).dues l).1, ((m.due i.toNat).dues l).2)
/-- The clock goes on by one. -/
def KeM.tickE (m : KeM) : KeM := KeM.event { m with ck := m.ck.tick } evTick
def KeM.tick1 (m : KeM) : List WaitM × KeM := m.tickE.dues m.ck.tickL
def KeM.ticks : Nat → KeM → List WaitM × KeM
  | 0, m => ([], m)
  | n + 1, m => (m.tick1.1 ++ (m.tick1.2.ticks n).1, (m.tick1.2.ticks n).2)
theorem KeM.due_tk (m : KeM) (i : Nat) : (m.due i).tk = m.tk := by unfold KeM.due; split <;> rfl
theorem dueIds_in (now : Int) (l : List Pat) : ∀ k, ∀ x ∈ dueIds now k l, (k : Int) ≤ x ∧ x < (k : Int) + l.length := by
  induction l with
  | nil => intro k x hx; simp [dueIds] at hx
  | cons p ps ih =>
    intro k x hx
    simp only [dueIds] at hx
    rw [List.length_cons]
    push_cast
    split at hx
    · rcases List.mem_cons.1 hx with rfl | hx
      · omega
      · have := ih (k + 1) x hx; push_cast at this; omega
    · have := ih (k + 1) x hx; push_cast at this; omega
theorem tickL_in {m : Clk} {x : Int} (hx : x ∈ m.tickL) : 0 ≤ x ∧ x < m.l.length := by
  unfold Clk.tickL at hx
  split at hx
  · cases hx
  · have := dueIds_in _ _ _ x hx; omega
theorem tickL_len (m : Clk) : m.tickL.length ≤ m.l.length := by
  unfold Clk.tickL
  split
  · simp
  · exact dueIds_length _ _ _
end Go.Proofs.YtogcikilphakmaaGreatDoor

/-
  tasks.New and kernel.New where they refuse; kernel.Run where it refuses. Every number, every list.
-/
namespace Go.Proofs.YtogcikilphakmaaGreatDoor
open Go.RowKit Spl

attribute [local go_sem] Oper.semAt_some
section
variable {w0 w : World} {R : List Pr} {S : Hp} {m : KeM} {z : KeV}
set_option maxRecDepth 20000 in
set_option maxHeartbeats 1600000 in
theorem tkNewNo (H : Hd w0 R w) {words : Int} {units : List Int} {v : Value} (hs : Srg w0 R v units) {E : Int} (hc : newTk words units = E) (h0 : ¬ E = 0) :
    Calls Tryz.prog 22 #[.int .i64 words, v] w fun e w' => e = .returned (.tuple #[.pointer none, .int .i64 E]) ∧ w = w' := by
  obtain ⟨a, c, hv⟩ := hs.form
  subst hv
  unfold newTk at hc
  by_cases n1 : words < 0
  · rw [if_pos (.inl n1)] at hc
    subst hc
    clear hs
    go_enter Tryz.func22, Tryz.ntmps22
    go_wp2_with fail
    go_ret2
    exact ⟨rfl, rfl⟩
  · by_cases n2 : 65536 < words
    · rw [if_pos (.inr n2)] at hc
      subst hc
      clear hs
      go_enter Tryz.func22, Tryz.ntmps22
      go_wp2_with fail
      go_ret2
      exact ⟨rfl, rfl⟩
    · rw [if_neg (by omega)] at hc
      by_cases n3 : (16 : Int) < units.length
      · rw [if_pos n3] at hc
        subst hc
        clear hs
        go_enter Tryz.func22, Tryz.ntmps22
        go_wp2_with fail
        go_ret2
        exact ⟨rfl, rfl⟩
      · rw [if_neg n3] at hc
        split at hc
        · exact absurd hc.symm h0
        · rename_i hall
          subst hc
          replace hs := Lib.hid hs
          replace hall : Hid (¬ ∀ (j : Nat) (y : Int), units[j]? = some y → 1 ≤ y ∧ y ≤ 255) := Lib.hid fun hh => hall (List.all_eq_true.2 fun x hx => by
            obtain ⟨j, hj⟩ := List.getElem?_of_mem hx
            have := hh j x hj
            simp; omega)
          clear h0
          go_enter Tryz.func22, Tryz.ntmps22
          go_wp2_with fail
          go_loop [21] (fun x => ∃ k : Nat, k ≤ units.length ∧ x = .int .i64 k ∧ Hid (∀ (j : Nat) (y : Int), j < k → units[j]? = some y → 1 ≤ y ∧ y ≤ 255)) (fun x => units.length - (intOf x).toNat)
          case atStart => exact ⟨0, Nat.zero_le _, rfl, Lib.hid fun j y hj => absurd hj (Nat.not_lt_zero _)⟩
          case round =>
            obtain ⟨k, hk, rfl, hbef⟩ := hrel
            by_cases hlt : k < units.length
            · obtain ⟨x, hx⟩ : ∃ x, units[k]? = some x := ⟨units[k], List.getElem?_eq_getElem hlt⟩
              obtain ⟨g, go, c2, hv2, -, hcell⟩ := hs.out.at hx
              injection hv2 with q1 q2 q3
              subst q1; subst q3
              have f0 := hcell H 0 _ rfl
              simp only [Enc.size, Nat.add_zero, Nat.mul_one] at f0
              have n4 : ¬ (k : Int) < 0 := by omega
              have n5 : (k : Int) < units.length := by omega
              have n6 : ¬ units.length ≤ k := by omega
              have g5 : IntKind.i64.wrap ((k : Int) + 1) = (k : Int) + 1 := IntWalk.i64_in _ (by omega)
              replace hx := Lib.hid hx
              clear hcell q2
              by_cases n7 : x < 1
              · go_wp2_with fail
                go_ret2
                exact ⟨rfl, rfl⟩
              · by_cases n8 : 255 < x
                · go_wp2_with fail
                  go_ret2
                  exact ⟨rfl, rfl⟩
                · go_wp2_with fail
                  go_round
                  case rel =>
                    refine ⟨k + 1, by omega, by simp, Lib.hid fun j y hj hy => ?_⟩
                    by_cases hjk : j = k
                    · subst hjk
                      rw [hx.out] at hy
                      injection hy with hy
                      omega
                    · exact hbef.out j y (by omega) hy
                  case measure => simp [intOf]; omega
            · exact absurd (fun j y hy => hbef.out j y (by have := lt_of_get? hy; omega) hy) hall.out
set_option maxRecDepth 20000 in
set_option maxHeartbeats 1600000 in
theorem keNewNo (H : Hd w0 R w) {words : Int} {units : List Int} {v : Value} (hs : Srg w0 R v units) {E : Int} (hc : newTk words units = E) (h0 : ¬ E = 0) :
    Calls Tryz.prog 5 #[.agg #[.int .i64 words, v]] w fun e w' => e = .returned (.tuple #[.pointer none, .int .i64 E]) ∧ Hd w0 R w' := by
  obtain ⟨a, c, hv⟩ := hs.form
  subst hv
  have H0 : Hd w0 _ (w.alloc (.cells #[.int .i64 words, .slice a units.length c] 28)) := H.fol
  have h1 := tkNewNo H0 (hs.of fun h => h.tail) hc h0
  have hf := (H0.k w.heap.size).fact1
  simp only [Nat.reduceAdd] at hf
  go_split_ands
  replace hs := Lib.hid hs
  replace hc := Lib.hid hc
  clear H
  go_enter Tryz.func5, Tryz.ntmps5
  go_wp2_with fail
  refine h1.mono ?_
  rintro e w1 ⟨rfl, rfl⟩
  clear h1
  go_wp2_with fail
  go_ret2
  exact ⟨rfl, H0.re⟩
set_option maxRecDepth 20000 in
theorem keRunNo {n : Int} (hn : n < 0 ∨ 4096 < n) (w : World) (k : Nat) :
    Calls Tryz.prog 14 #[.pointer (some ⟨k, 0, none⟩), .int .i64 n] w fun e w' => e = .returned (.tuple #[.int .i64 0, .int .i64 1]) ∧ w = w' := by
  by_cases n1 : n < 0
  · clear hn
    go_enter Tryz.func14, Tryz.ntmps14
    go_wp2_with fail
    go_ret2
    exact ⟨rfl, rfl⟩
  · have n2 : 4096 < n := by omega
    clear hn
    go_enter Tryz.func14, Tryz.ntmps14
    go_wp2_with fail
    go_ret2
    exact ⟨rfl, rfl⟩
end
end Go.Proofs.YtogcikilphakmaaGreatDoor
