/-
  Merged texts of one proof: CoM, Co1, Co2, Co2b.
-/
import Derived.Test.YtogcikilphakmaaGreatDoorG05
import Derived.Test.YtogcikilphakmaaGreatDoorG08
import Derived.Test.YtogcikilphakmaaGreatDoorG20
import Derived.Test.YtogcikilphakmaaGreatDoorG36
import Derived.Test.YtogcikilphakmaaGreatDoorG37

/-
  Package core: the model of a core, and how it lies in memory.
-/
namespace Go.Proofs.YtogcikilphakmaaGreatDoor
open Go.RowKit Spl

/-- A started job: pos is the number of its next step. -/
structure StM where
  job : Int
  task : Nat
  level : Int
  pos : Nat
  steps : List OpM
/-- What a core shows, but for the tasks. -/
structure CoM where
  ar : ArM
  un : UnM
  ce : List Int
  jobs : List StM
def StM.act (j : StM) : ActM := ⟨j.job, j.task, j.level, j.pos⟩
def placeM (jobs : List StM) (job : Int) : Int := match jobs.findIdx? (fun j => j.job == job) with
  | some i => i
  | none => -1
def needAt (m : TkM) (task : Nat) (res : Int) : Int := match m.rows[task]? with
  | some r => needOf r.t.needs res
  | none => 0
/-- What an operation does but finish: why it is refused, and what is behind it. -/
def actM (tk : TkM) (m : CoM) (j : StM) (o : OpM) : Int × CoM :=
  if o.kind = 1 then
    if m.un.lockE j.job o.res o.n (needAt tk j.task o.res) = 0 then
      (0, { m with un := m.un.locked j.job o.res.toNat o.n, ce := m.ce ++ [max (ceilAt tk o.res (((m.un.locked j.job o.res.toNat o.n).free[o.res.toNat]?).getD 0)) (topI m.ce)] })
    else (m.un.lockE j.job o.res o.n (needAt tk j.task o.res), m)
  else if o.kind = 2 then
    if m.un.unlockE j.job o.res = 0 then (0, { m with un := m.un.popped j.job, ce := m.ce.dropLast }) else (m.un.unlockE j.job o.res, m)
  else if o.kind = 3 then (m.ar.pushE, { m with ar := m.ar.push o.v })
  else if o.kind = 4 then (m.ar.popE, { m with ar := m.ar.pop })
  else if o.kind = 6 then
    if m.un.cellE j.job o.res = 0 then (m.ar.pushE, { m with ar := m.ar.push (m.un.cells[o.res.toNat]?.getD 0) }) else (m.un.cellE j.job o.res, m)
  else if o.kind = 7 then
    if m.un.cellE j.job o.res = 0 then
      if m.ar.popE = 0 then (0, { m with ar := m.ar.pop, un := m.un.stored o.res.toNat m.ar.popV }) else (m.ar.popE, { m with ar := m.ar.pop })
    else (m.un.cellE j.job o.res, m)
  else if o.kind = 8 then
    if ((m.ar.fr.getLast?.map fun f => f.laid.length).getD 0) < 2 then (10, m)
    else (m.ar.pop.pop.pushE, { m with ar := m.ar.pop.pop.push (wrap64 (m.ar.pop.popV + m.ar.popV)) })
  else (0, m)
/-- The running job finishes. -/
def finishM (m : CoM) (job : Int) : CoM := ⟨m.ar.close, m.un.popN job (m.un.locksN job), m.ce.take (m.ce.length - m.un.locksN job), m.jobs.dropLast⟩

def stB (S : Hp) (b : Nat) (j : StM) : Pr := ex fun v : Value => all [fact (RoE S 39 v j.steps), cel b 162 #[.int .i64 j.job, .int .i64 j.task, .int .i64 j.level, .int .i64 j.pos, v]]
def ptr (b : Nat) : Value := .pointer (some ⟨b, 0, none⟩)
/-- Where the parts of a core lie. -/
structure CoV where
  l : Nat
  t : Nat
  a : Nat
  u : Nat
  c : Nat
abbrev lookRow (x : CoV) (vj : Value) : Array Value := #[.pointer (some ⟨x.t, 0, none⟩), .pointer (some ⟨x.a, 0, none⟩), .pointer (some ⟨x.u, 0, none⟩), .pointer (some ⟨x.c, 0, none⟩), vj]
/-- The cells of a core: its look, and what its operations do. -/
abbrev coreRow (c l : Nat) : Array Value := #[.pointer (some ⟨l, 0, none⟩), .nilFunc, .func (.func 133) #[.pointer (some ⟨c, 0, none⟩)] #[], .func (.func 134) #[.pointer (some ⟨c, 0, none⟩)] #[],
  .func (.func 135) #[.pointer (some ⟨c, 0, none⟩)] #[], .func (.func 136) #[.pointer (some ⟨c, 0, none⟩)] #[], .func (.func 137) #[.pointer (some ⟨c, 0, none⟩)] #[],
  .func (.func 138) #[.pointer (some ⟨c, 0, none⟩)] #[], .func (.func 139) #[.pointer (some ⟨c, 0, none⟩)] #[], .func (.func 140) #[.pointer (some ⟨c, 0, none⟩)] #[],
  .func (.func 141) #[.pointer (some ⟨c, 0, none⟩)] #[], .nilFunc, .nilFunc]
/-- A look at a core, with its parts; the task table and the shared memory lie beside it. -/
def LkP (x : CoV) (S : Hp) (m : CoM) : Pr := ex fun y : Value × List Nat => all [fact (y.2.length = m.jobs.length), cel x.l 94 (lookRow x y.1), ArP x.a m.ar, UnP x.u m.un, CeP x.c m.ce, SlE 158 y.1 (y.2.map Ptr.mk), all (List.zipWith (stB S) y.2 m.jobs)]
instance (x : CoV) (S : Hp) (m : CoM) : Key (LkP x S m) (.b x.l) := ⟨trivial⟩

/-- A core with its parts, the started jobs' blocks left out. -/
abbrev CoL (c : Nat) (x : CoV) (vj : Value) (tk : TkM) (S : Hp) (m : CoM) (R : List Pr) : List Pr :=
  cel c 112 (coreRow c x.l) :: cel x.l 94 (lookRow x vj) :: TkP x.t tk S :: ro S :: ArP x.a m.ar :: UnP x.u m.un :: CeP x.c m.ce :: R
abbrev actV (j : ActM) : Value := .agg #[.int .i64 j.job, .int .i64 j.task, .int .i64 j.level, .int .i64 j.at_]
abbrev opV (o : OpM) : Value := .agg #[.int .i64 o.kind, .int .i64 o.res, .int .i64 o.n, .int .i64 o.v]
section
variable {w0 w : World} {R : List Pr} {x : CoV} {S : Hp} {m : CoM}
theorem LkP.opened (H : Hd w0 (LkP x S m :: R) w) : ∃ (vj : Value) (bs : List Nat), bs.length = m.jobs.length ∧
    Hd w0 (cel x.l 94 (lookRow x vj) :: ArP x.a m.ar :: UnP x.u m.un :: CeP x.c m.ce :: SlE 158 vj (bs.map Ptr.mk) :: all (List.zipWith (stB S) bs m.jobs) :: R) w := by
  obtain ⟨⟨vj, bs⟩, H1⟩ := H.out
  have H2 : Hd w0 (fact (bs.length = m.jobs.length) :: _) w := H1.flat
  exact ⟨vj, bs, H2.get, H2.tail⟩
theorem LkP.shut {vj : Value} {bs : List Nat} (H : Hd w0 (cel x.l 94 (lookRow x vj) :: ArP x.a m.ar :: UnP x.u m.un :: CeP x.c m.ce :: SlE 158 vj (bs.map Ptr.mk) :: all (List.zipWith (stB S) bs m.jobs) :: R) w) (h : bs.length = m.jobs.length) : Hd w0 (LkP x S m :: R) w :=
  Hd.into (vj, bs) (Hd.pack (L := [_, _, _, _, _, _, _]) (Hd.put h H))
theorem stB.mono {S' : Hp} (k : Le S S') {b : Nat} {j : StM} {h : Hp} (hs : stB S b j h) : stB S' b j h := by
  obtain ⟨v, a, b', d, e, h1, h2⟩ := hs
  exact ⟨v, a, b', d, e, Ros.mono h1 k, h2⟩
theorem stBs.mono {S' : Hp} (k : Le S S') : ∀ {bs : List Nat} {js : List StM} {h : Hp}, sat (List.zipWith (stB S) bs js) h → sat (List.zipWith (stB S') bs js) h
  | [], _, _, h => by simpa using h
  | _ :: _, [], _, h => by simpa using h
  | _ :: bs, _ :: js, _, h => sat_cons_mono (fun _ h => stB.mono k h) (fun _ h => stBs.mono k h) h
theorem LkP.mono {S' : Hp} (H : Hd w0 (LkP x S m :: R) w) (k : Le S S') : Hd w0 (LkP x S' m :: R) w := by
  obtain ⟨vj, bs, hb, H1⟩ := LkP.opened H
  have H2 : Hd w0 (all (List.zipWith (stB S) bs m.jobs) :: cel x.l 94 (lookRow x vj) :: ArP x.a m.ar :: UnP x.u m.un :: CeP x.c m.ce :: SlE 158 vj (bs.map Ptr.mk) :: R) w := H1.re
  exact LkP.shut (vj := vj) (bs := bs) (H2.mono (B := all (List.zipWith (stB S') bs m.jobs)) fun _ h => stBs.mono k h).re hb
end
end Go.Proofs.YtogcikilphakmaaGreatDoor

/-
  Package core: push, pop, work, load, unlock. Every core.
-/
namespace Go.Proofs.YtogcikilphakmaaGreatDoor
open Go.RowKit Spl

theorem cellE_pos {m : UnM} {job res : Int} (h : m.cellE job res = 0) : 0 ≤ res ∧ res < m.units.length ∧ 0 ≤ job := by
  unfold UnM.cellE at h
  split at h
  · cases h
  · omega
section
variable {w0 w : World} {R : List Pr} {c : Nat} {x : CoV} {vj : Value} {tk : TkM} {S : Hp} {m : CoM}
set_option maxRecDepth 20000 in
set_option maxHeartbeats 4000000 in
theorem coPush (H : Hd w0 (CoL c x vj tk S m R) w) (hm : m.ar.Ok) (j : ActM) (o : OpM) :
    Calls Tryz.prog 135 #[.pointer (some ⟨c, 0, none⟩), actV j, opV o] w fun e w' => e = .returned (.int .i64 m.ar.pushE) ∧ Hd w0 (CoL c x vj tk S { m with ar := m.ar.push o.v } R) w' := by
  obtain ⟨l, t, a, u, ce⟩ := x
  have H2 : Hd w0 _ ((w.alloc (.cells #[.int .i64 j.job, .int .i64 j.task, .int .i64 j.level, .int .i64 j.at_] 160)).alloc (.cells #[.int .i64 o.kind, .int .i64 o.res, .int .i64 o.n, .int .i64 o.v] 39)) := H.fol
  have HA := H2.drew
  have hc := arPush (HA.k a) hm o.v
  have hf := H2.facts
  simp only [Nat.reduceAdd] at hf
  go_split_ands
  clear H
  go_enter Tryz.func135, Tryz.ntmps135
  go_wp2_with fail
  refine wp_region_still_tail 9 (by kernel_rfl) (by kernel_rfl) ?_
  simp only [List.take_succ_cons, List.take_zero, List.drop_succ_cons, List.drop_zero, World.drew_eq]
  (repeat still_step)
  refine wpStill_nil ?_
  go_wp2_with fail
  refine hc.mono ?_
  rintro e w1 ⟨rfl, H3⟩
  clear hc
  go_wp2_with fail
  go_ret
  exact ⟨rfl, H3.re⟩
set_option maxRecDepth 20000 in
set_option maxHeartbeats 4000000 in
theorem coPop (H : Hd w0 (CoL c x vj tk S m R) w) (hm : m.ar.Ok) (j : ActM) (o : OpM) :
    Calls Tryz.prog 136 #[.pointer (some ⟨c, 0, none⟩), actV j, opV o] w fun e w' => e = .returned (.int .i64 m.ar.popE) ∧ Hd w0 (CoL c x vj tk S { m with ar := m.ar.pop } R) w' := by
  obtain ⟨l, t, a, u, ce⟩ := x
  have H2 : Hd w0 _ ((w.alloc (.cells #[.int .i64 j.job, .int .i64 j.task, .int .i64 j.level, .int .i64 j.at_] 160)).alloc (.cells #[.int .i64 o.kind, .int .i64 o.res, .int .i64 o.n, .int .i64 o.v] 39)) := H.fol
  have HA := H2
  have hc := arPop (HA.k a) hm
  have hf := H2.facts
  simp only [Nat.reduceAdd] at hf
  go_split_ands
  clear H
  go_enter Tryz.func136, Tryz.ntmps136
  go_wp2_with fail
  refine hc.mono ?_
  rintro e w1 ⟨rfl, H3⟩
  clear hc
  go_wp2_with fail
  go_ret
  exact ⟨rfl, H3.re⟩
set_option maxRecDepth 20000 in
set_option maxHeartbeats 4000000 in
theorem coWork (H : Hd w0 (CoL c x vj tk S m R) w) (j : ActM) (o : OpM) :
    Calls Tryz.prog 137 #[.pointer (some ⟨c, 0, none⟩), actV j, opV o] w fun e w' => e = .returned (.int .i64 0) ∧ Hd w0 (CoL c x vj tk S m R) w' := by
  obtain ⟨l, t, a, u, ce⟩ := x
  have H2 : Hd w0 _ ((w.alloc (.cells #[.int .i64 j.job, .int .i64 j.task, .int .i64 j.level, .int .i64 j.at_] 160)).alloc (.cells #[.int .i64 o.kind, .int .i64 o.res, .int .i64 o.n, .int .i64 o.v] 39)) := H.fol
  have HA := H2
  have hf := H2.facts
  simp only [Nat.reduceAdd] at hf
  go_split_ands
  clear H
  have H3 := H2
  go_enter Tryz.func137, Tryz.ntmps137
  go_wp2_with fail
  go_ret
  exact ⟨rfl, H3.re⟩
set_option maxRecDepth 20000 in
set_option maxHeartbeats 4000000 in
theorem coLoadNo (H : Hd w0 (CoL c x vj tk S m R) w) (hu : m.un.Inv) (j : ActM) (o : OpM) {E : Int} (hE : m.un.cellE j.job o.res = E) (hn : ¬ E = 0) :
    Calls Tryz.prog 138 #[.pointer (some ⟨c, 0, none⟩), actV j, opV o] w fun e w' => e = .returned (.int .i64 E) ∧ Hd w0 (CoL c x vj tk S m R) w' := by
  obtain ⟨l, t, a, u, ce⟩ := x
  have H2 : Hd w0 _ ((w.alloc (.cells #[.int .i64 j.job, .int .i64 j.task, .int .i64 j.level, .int .i64 j.at_] 160)).alloc (.cells #[.int .i64 o.kind, .int .i64 o.res, .int .i64 o.n, .int .i64 o.v] 39)) := H.fol
  have HA := H2.drew
  have hc := unLoadNo (HA.k u) hu.ok hu.ok2 (job := j.job) (res := o.res) (by rw [hE]; exact hn)
  rw [hE] at hc
  have hf := H2.facts
  simp only [Nat.reduceAdd] at hf
  go_split_ands
  clear H
  go_enter Tryz.func138, Tryz.ntmps138
  go_wp2_with fail
  refine wp_region_mix 16 [(0, true), (1, true), (2, true), (3, true), (4, true), (5, true), (6, true), (7, true), (8, true), (9, true), (10, true), (11, false), (12, true), (13, true), (14, true), (15, true)] (fun w' => w'.cell? ⟨c, 0, none⟩ = some (.pointer (some ⟨l, 0, none⟩)) ∧ w'.cell? ⟨l, 2, none⟩ = some (.pointer (some ⟨u, 0, none⟩)) ∧ w'.cell? ⟨w.heap.size, 0, none⟩ = some (.int .i64 j.job) ∧ w'.cell? ⟨w.heap.size + 1, 1, none⟩ = some (.int .i64 o.res)) (by kernel_rfl) (by kernel_rfl) (⟨(show _ = some _ from (HA.k c).ce 0 rfl), (show _ = some _ from (HA.k l).ce 2 rfl), (show _ = some _ from (HA.k w.heap.size).ce 0 rfl), (show _ = some _ from (HA.k (w.heap.size + 1)).ce 1 rfl)⟩) (fun _ _ d _ _ h => by cases d <;> exact h) ?_
  simp only [List.drop_succ_cons, List.drop_zero]
  iterate 11 (refine mix_head (o := _) (v := ?_) (by (simp only [List.getElem?_toArray, List.getElem?_cons_succ, List.getElem?_cons_zero]); rfl) (by rfl) (fun w' hS => ?_) ?_; rotate_left 1; (focus ((try dsimp only at hS); (try go_split_ands); go_simp; (try with_reducible rfl))); (try simp only [Act.put, List.setIfInBounds_toArray, List.set_cons_zero, List.set_cons_succ]))
  refine mix_mid (o := _) (by (simp only [List.getElem?_toArray, List.getElem?_cons_succ, List.getElem?_cons_zero]); rfl) ?_
  go_wp2_with fail
  refine hc.mono ?_
  rintro e w1 ⟨rfl, H3⟩
  clear hc
  go_wp2_with fail
  refine mixQ_in ⟨(show _ = some _ from (H3.k c).ce 0 rfl), (show _ = some _ from (H3.k l).ce 2 rfl), (show _ = some _ from (H3.k w.heap.size).ce 0 rfl), (show _ = some _ from (H3.k (w.heap.size + 1)).ce 1 rfl)⟩ ?_
  iterate 4 (refine mix_head (o := _) (v := ?_) (by (simp only [List.getElem?_toArray, List.getElem?_cons_succ, List.getElem?_cons_zero]); rfl) (by rfl) (fun w' hS => ?_) ?_; rotate_left 1; (focus ((try dsimp only at hS); (try go_split_ands); go_simp; (try with_reducible rfl))); (try simp only [Act.put, List.setIfInBounds_toArray, List.set_cons_zero, List.set_cons_succ]))
  refine mix_end ?_
  (try dsimp only)
  go_wp2_with fail
  go_ret
  exact ⟨rfl, H3.re⟩
set_option maxRecDepth 20000 in
set_option maxHeartbeats 4000000 in
theorem coLoad (H : Hd w0 (CoL c x vj tk S m R) w) (hm : m.ar.Ok) (hu : m.un.Inv) (j : ActM) (o : OpM) (hE : m.un.cellE j.job o.res = 0) {v : Int} (hv : m.un.cells[o.res.toNat]? = some v) :
    Calls Tryz.prog 138 #[.pointer (some ⟨c, 0, none⟩), actV j, opV o] w fun e w' => e = .returned (.int .i64 m.ar.pushE) ∧ Hd w0 (CoL c x vj tk S { m with ar := m.ar.push v } R) w' := by
  obtain ⟨r, hr⟩ : ∃ r : Nat, o.res = r := ⟨o.res.toNat, by have := cellE_pos hE; omega⟩
  obtain ⟨l, t, a, u, ce⟩ := x
  have H2 : Hd w0 _ ((w.alloc (.cells #[.int .i64 j.job, .int .i64 j.task, .int .i64 j.level, .int .i64 j.at_] 160)).alloc (.cells #[.int .i64 o.kind, .int .i64 o.res, .int .i64 o.n, .int .i64 o.v] 39)) := H.fol
  have HA := H2.drew
  have hc := unLoad (r := r) (n := v) (HA.k u) hu.ok hu.ok2 (job := j.job) (by rw [← hr]; exact hE) (by rw [hr] at hv; simpa using hv)
  rw [← hr] at hc
  replace hr := Lib.hid hr
  have hf := H2.facts
  simp only [Nat.reduceAdd] at hf
  go_split_ands
  clear H
  go_enter Tryz.func138, Tryz.ntmps138
  go_wp2_with fail
  refine wp_region_mix 16 [(0, true), (1, true), (2, true), (3, true), (4, true), (5, true), (6, true), (7, true), (8, true), (9, true), (10, true), (11, false), (12, true), (13, true), (14, true), (15, true)] (fun w' => w'.cell? ⟨c, 0, none⟩ = some (.pointer (some ⟨l, 0, none⟩)) ∧ w'.cell? ⟨l, 2, none⟩ = some (.pointer (some ⟨u, 0, none⟩)) ∧ w'.cell? ⟨w.heap.size, 0, none⟩ = some (.int .i64 j.job) ∧ w'.cell? ⟨w.heap.size + 1, 1, none⟩ = some (.int .i64 o.res)) (by kernel_rfl) (by kernel_rfl) (⟨(show _ = some _ from (HA.k c).ce 0 rfl), (show _ = some _ from (HA.k l).ce 2 rfl), (show _ = some _ from (HA.k w.heap.size).ce 0 rfl), (show _ = some _ from (HA.k (w.heap.size + 1)).ce 1 rfl)⟩) (fun _ _ d _ _ h => by cases d <;> exact h) ?_
  simp only [List.drop_succ_cons, List.drop_zero]
  iterate 11 (refine mix_head (o := _) (v := ?_) (by (simp only [List.getElem?_toArray, List.getElem?_cons_succ, List.getElem?_cons_zero]); rfl) (by rfl) (fun w' hS => ?_) ?_; rotate_left 1; (focus ((try dsimp only at hS); (try go_split_ands); go_simp; (try with_reducible rfl))); (try simp only [Act.put, List.setIfInBounds_toArray, List.set_cons_zero, List.set_cons_succ]))
  refine mix_mid (o := _) (by (simp only [List.getElem?_toArray, List.getElem?_cons_succ, List.getElem?_cons_zero]); rfl) ?_
  go_wp2_with fail
  refine hc.mono ?_
  rintro e w1 ⟨rfl, H3⟩
  clear hc
  go_wp2_with fail
  refine mixQ_in ⟨(show _ = some _ from (H3.k c).ce 0 rfl), (show _ = some _ from (H3.k l).ce 2 rfl), (show _ = some _ from (H3.k w.heap.size).ce 0 rfl), (show _ = some _ from (H3.k (w.heap.size + 1)).ce 1 rfl)⟩ ?_
  iterate 4 (refine mix_head (o := _) (v := ?_) (by (simp only [List.getElem?_toArray, List.getElem?_cons_succ, List.getElem?_cons_zero]); rfl) (by rfl) (fun w' hS => ?_) ?_; rotate_left 1; (focus ((try dsimp only at hS); (try go_split_ands); go_simp; (try with_reducible rfl))); (try simp only [Act.put, List.setIfInBounds_toArray, List.set_cons_zero, List.set_cons_succ]))
  refine mix_end ?_
  (try dsimp only)
  have hg := H3.facts
  simp only [Nat.reduceAdd] at hg
  go_split_ands
  have hc := arPush (H3.k a) hm v
  go_wp2_with fail
  refine hc.mono ?_
  rintro e w2 ⟨rfl, H4⟩
  clear hc
  go_wp2_with fail
  go_ret
  exact ⟨rfl, H4.re⟩
set_option maxRecDepth 20000 in
set_option maxHeartbeats 4000000 in
theorem coUnlockNo (H : Hd w0 (CoL c x vj tk S m R) w) (hu : m.un.Inv) (j : ActM) (o : OpM) {E : Int} (hE : m.un.unlockE j.job o.res = E) (hn : ¬ E = 0) :
    Calls Tryz.prog 134 #[.pointer (some ⟨c, 0, none⟩), actV j, opV o] w fun e w' => e = .returned (.int .i64 E) ∧ Hd w0 (CoL c x vj tk S m R) w' := by
  obtain ⟨l, t, a, u, ce⟩ := x
  have H2 : Hd w0 _ ((w.alloc (.cells #[.int .i64 j.job, .int .i64 j.task, .int .i64 j.level, .int .i64 j.at_] 160)).alloc (.cells #[.int .i64 o.kind, .int .i64 o.res, .int .i64 o.n, .int .i64 o.v] 39)) := H.fol
  have HA := H2.drew
  have hc := unUnlock (HA.k u) hu.ok hu.ok2 hu.ok3 (job := j.job) (res := o.res)
  rw [hE, if_neg hn, if_neg hn] at hc
  have hf := H2.facts
  simp only [Nat.reduceAdd] at hf
  go_split_ands
  clear H
  go_enter Tryz.func134, Tryz.ntmps134
  go_wp2_with fail
  refine wp_region_mix 16 [(0, true), (1, true), (2, true), (3, true), (4, true), (5, true), (6, true), (7, true), (8, true), (9, true), (10, true), (11, false), (12, true), (13, true), (14, true), (15, true)] (fun w' => w'.cell? ⟨c, 0, none⟩ = some (.pointer (some ⟨l, 0, none⟩)) ∧ w'.cell? ⟨l, 2, none⟩ = some (.pointer (some ⟨u, 0, none⟩)) ∧ w'.cell? ⟨w.heap.size, 0, none⟩ = some (.int .i64 j.job) ∧ w'.cell? ⟨w.heap.size + 1, 1, none⟩ = some (.int .i64 o.res)) (by kernel_rfl) (by kernel_rfl) (⟨(show _ = some _ from (HA.k c).ce 0 rfl), (show _ = some _ from (HA.k l).ce 2 rfl), (show _ = some _ from (HA.k w.heap.size).ce 0 rfl), (show _ = some _ from (HA.k (w.heap.size + 1)).ce 1 rfl)⟩) (fun _ _ d _ _ h => by cases d <;> exact h) ?_
  simp only [List.drop_succ_cons, List.drop_zero]
  iterate 11 (refine mix_head (o := _) (v := ?_) (by (simp only [List.getElem?_toArray, List.getElem?_cons_succ, List.getElem?_cons_zero]); rfl) (by rfl) (fun w' hS => ?_) ?_; rotate_left 1; (focus ((try dsimp only at hS); (try go_split_ands); go_simp; (try with_reducible rfl))); (try simp only [Act.put, List.setIfInBounds_toArray, List.set_cons_zero, List.set_cons_succ]))
  refine mix_mid (o := _) (by (simp only [List.getElem?_toArray, List.getElem?_cons_succ, List.getElem?_cons_zero]); rfl) ?_
  go_wp2_with fail
  refine hc.mono ?_
  rintro e w1 ⟨rfl, H3⟩
  clear hc
  go_wp2_with fail
  refine mixQ_in ⟨(show _ = some _ from (H3.k c).ce 0 rfl), (show _ = some _ from (H3.k l).ce 2 rfl), (show _ = some _ from (H3.k w.heap.size).ce 0 rfl), (show _ = some _ from (H3.k (w.heap.size + 1)).ce 1 rfl)⟩ ?_
  iterate 4 (refine mix_head (o := _) (v := ?_) (by (simp only [List.getElem?_toArray, List.getElem?_cons_succ, List.getElem?_cons_zero]); rfl) (by rfl) (fun w' hS => ?_) ?_; rotate_left 1; (focus ((try dsimp only at hS); (try go_split_ands); go_simp; (try with_reducible rfl))); (try simp only [Act.put, List.setIfInBounds_toArray, List.set_cons_zero, List.set_cons_succ]))
  refine mix_end ?_
  (try dsimp only)
  go_wp2_with fail
  go_ret
  exact ⟨rfl, H3.re⟩
set_option maxRecDepth 20000 in
set_option maxHeartbeats 4000000 in
theorem coUnlock (H : Hd w0 (CoL c x vj tk S m R) w) (hu : m.un.Inv) (hl : m.ce.length ≤ 10000) (hl0 : m.ce ≠ []) (j : ActM) (o : OpM) (hE : m.un.unlockE j.job o.res = 0) :
    Calls Tryz.prog 134 #[.pointer (some ⟨c, 0, none⟩), actV j, opV o] w fun e w' => e = .returned (.int .i64 0) ∧ Hd w0 (CoL c x vj tk S { m with un := m.un.popped j.job, ce := m.ce.dropLast } R) w' := by
  obtain ⟨l, t, a, u, ce⟩ := x
  have H2 : Hd w0 _ ((w.alloc (.cells #[.int .i64 j.job, .int .i64 j.task, .int .i64 j.level, .int .i64 j.at_] 160)).alloc (.cells #[.int .i64 o.kind, .int .i64 o.res, .int .i64 o.n, .int .i64 o.v] 39)) := H.fol
  have HA := H2.drew
  have hc := unUnlock (HA.k u) hu.ok hu.ok2 hu.ok3 (job := j.job) (res := o.res)
  rw [hE, if_pos rfl, if_pos rfl] at hc
  have hf := H2.facts
  simp only [Nat.reduceAdd] at hf
  go_split_ands
  clear H
  go_enter Tryz.func134, Tryz.ntmps134
  go_wp2_with fail
  refine wp_region_mix 16 [(0, true), (1, true), (2, true), (3, true), (4, true), (5, true), (6, true), (7, true), (8, true), (9, true), (10, true), (11, false), (12, true), (13, true), (14, true), (15, true)] (fun w' => w'.cell? ⟨c, 0, none⟩ = some (.pointer (some ⟨l, 0, none⟩)) ∧ w'.cell? ⟨l, 2, none⟩ = some (.pointer (some ⟨u, 0, none⟩)) ∧ w'.cell? ⟨w.heap.size, 0, none⟩ = some (.int .i64 j.job) ∧ w'.cell? ⟨w.heap.size + 1, 1, none⟩ = some (.int .i64 o.res)) (by kernel_rfl) (by kernel_rfl) (⟨(show _ = some _ from (HA.k c).ce 0 rfl), (show _ = some _ from (HA.k l).ce 2 rfl), (show _ = some _ from (HA.k w.heap.size).ce 0 rfl), (show _ = some _ from (HA.k (w.heap.size + 1)).ce 1 rfl)⟩) (fun _ _ d _ _ h => by cases d <;> exact h) ?_
  simp only [List.drop_succ_cons, List.drop_zero]
  iterate 11 (refine mix_head (o := _) (v := ?_) (by (simp only [List.getElem?_toArray, List.getElem?_cons_succ, List.getElem?_cons_zero]); rfl) (by rfl) (fun w' hS => ?_) ?_; rotate_left 1; (focus ((try dsimp only at hS); (try go_split_ands); go_simp; (try with_reducible rfl))); (try simp only [Act.put, List.setIfInBounds_toArray, List.set_cons_zero, List.set_cons_succ]))
  refine mix_mid (o := _) (by (simp only [List.getElem?_toArray, List.getElem?_cons_succ, List.getElem?_cons_zero]); rfl) ?_
  go_wp2_with fail
  refine hc.mono ?_
  rintro e w1 ⟨rfl, H3⟩
  clear hc
  go_wp2_with fail
  refine mixQ_in ⟨(show _ = some _ from (H3.k c).ce 0 rfl), (show _ = some _ from (H3.k l).ce 2 rfl), (show _ = some _ from (H3.k w.heap.size).ce 0 rfl), (show _ = some _ from (H3.k (w.heap.size + 1)).ce 1 rfl)⟩ ?_
  iterate 4 (refine mix_head (o := _) (v := ?_) (by (simp only [List.getElem?_toArray, List.getElem?_cons_succ, List.getElem?_cons_zero]); rfl) (by rfl) (fun w' hS => ?_) ?_; rotate_left 1; (focus ((try dsimp only at hS); (try go_split_ands); go_simp; (try with_reducible rfl))); (try simp only [Act.put, List.setIfInBounds_toArray, List.set_cons_zero, List.set_cons_succ]))
  refine mix_end ?_
  (try dsimp only)
  have hg := H3.facts
  simp only [Nat.reduceAdd] at hg
  go_split_ands
  have hc := ceLower (H3.k ce) hl hl0
  go_wp2_with fail
  refine hc.mono ?_
  rintro e w2 ⟨rfl, H4⟩
  clear hc
  go_wp2_with fail
  go_ret
  exact ⟨rfl, H4.re⟩
end
end Go.Proofs.YtogcikilphakmaaGreatDoor

/-
  Package core: store, add. Every core.
-/
namespace Go.Proofs.YtogcikilphakmaaGreatDoor
open Go.RowKit Spl

section
variable {w0 w : World} {R : List Pr} {c : Nat} {x : CoV} {vj : Value} {tk : TkM} {S : Hp} {m : CoM}
set_option maxRecDepth 20000 in
set_option maxHeartbeats 4000000 in
theorem coStoreNo (H : Hd w0 (CoL c x vj tk S m R) w) (hu : m.un.Inv) (j : ActM) (o : OpM) {E : Int} (hE : m.un.cellE j.job o.res = E) (hn : ¬ E = 0) :
    Calls Tryz.prog 139 #[.pointer (some ⟨c, 0, none⟩), actV j, opV o] w fun e w' => e = .returned (.int .i64 E) ∧ Hd w0 (CoL c x vj tk S m R) w' := by
  obtain ⟨l, t, a, u, ce⟩ := x
  have H2 : Hd w0 _ ((w.alloc (.cells #[.int .i64 j.job, .int .i64 j.task, .int .i64 j.level, .int .i64 j.at_] 160)).alloc (.cells #[.int .i64 o.kind, .int .i64 o.res, .int .i64 o.n, .int .i64 o.v] 39)) := H.fol
  have HA := H2.drew
  have hc := unLoadNo (HA.k u) hu.ok hu.ok2 (job := j.job) (res := o.res) (by rw [hE]; exact hn)
  rw [hE] at hc
  have hf := H2.facts
  simp only [Nat.reduceAdd] at hf
  go_split_ands
  clear H
  go_enter Tryz.func139, Tryz.ntmps139
  go_wp2_with fail
  refine wp_region_mix 16 [(0, true), (1, true), (2, true), (3, true), (4, true), (5, true), (6, true), (7, true), (8, true), (9, true), (10, true), (11, false), (12, true), (13, true), (14, true), (15, true)] (fun w' => w'.cell? ⟨c, 0, none⟩ = some (.pointer (some ⟨l, 0, none⟩)) ∧ w'.cell? ⟨l, 2, none⟩ = some (.pointer (some ⟨u, 0, none⟩)) ∧ w'.cell? ⟨w.heap.size, 0, none⟩ = some (.int .i64 j.job) ∧ w'.cell? ⟨w.heap.size + 1, 1, none⟩ = some (.int .i64 o.res)) (by kernel_rfl) (by kernel_rfl) (⟨(show _ = some _ from (HA.k c).ce 0 rfl), (show _ = some _ from (HA.k l).ce 2 rfl), (show _ = some _ from (HA.k w.heap.size).ce 0 rfl), (show _ = some _ from (HA.k (w.heap.size + 1)).ce 1 rfl)⟩) (fun _ _ d _ _ h => by cases d <;> exact h) ?_
  simp only [List.drop_succ_cons, List.drop_zero]
  iterate 11 (refine mix_head (o := _) (v := ?_) (by (simp only [List.getElem?_toArray, List.getElem?_cons_succ, List.getElem?_cons_zero]); rfl) (by rfl) (fun w' hS => ?_) ?_; rotate_left 1; (focus ((try dsimp only at hS); (try go_split_ands); go_simp; (try with_reducible rfl))); (try simp only [Act.put, List.setIfInBounds_toArray, List.set_cons_zero, List.set_cons_succ]))
  refine mix_mid (o := _) (by (simp only [List.getElem?_toArray, List.getElem?_cons_succ, List.getElem?_cons_zero]); rfl) ?_
  go_wp2_with fail
  refine hc.mono ?_
  rintro e w1 ⟨rfl, H3⟩
  clear hc
  go_wp2_with fail
  refine mixQ_in ⟨(show _ = some _ from (H3.k c).ce 0 rfl), (show _ = some _ from (H3.k l).ce 2 rfl), (show _ = some _ from (H3.k w.heap.size).ce 0 rfl), (show _ = some _ from (H3.k (w.heap.size + 1)).ce 1 rfl)⟩ ?_
  iterate 4 (refine mix_head (o := _) (v := ?_) (by (simp only [List.getElem?_toArray, List.getElem?_cons_succ, List.getElem?_cons_zero]); rfl) (by rfl) (fun w' hS => ?_) ?_; rotate_left 1; (focus ((try dsimp only at hS); (try go_split_ands); go_simp; (try with_reducible rfl))); (try simp only [Act.put, List.setIfInBounds_toArray, List.set_cons_zero, List.set_cons_succ]))
  refine mix_end ?_
  (try dsimp only)
  go_wp2_with fail
  go_ret
  exact ⟨rfl, H3.re⟩
set_option maxRecDepth 20000 in
set_option maxHeartbeats 4000000 in
theorem coStoreEmpty (H : Hd w0 (CoL c x vj tk S m R) w) (hm : m.ar.Ok) (hu : m.un.Inv) (j : ActM) (o : OpM) (hE : m.un.cellE j.job o.res = 0) {v : Int} (hv : m.un.cells[o.res.toNat]? = some v) {E : Int} (hp : m.ar.popE = E) (hn : ¬ E = 0) :
    Calls Tryz.prog 139 #[.pointer (some ⟨c, 0, none⟩), actV j, opV o] w fun e w' => e = .returned (.int .i64 E) ∧ Hd w0 (CoL c x vj tk S { m with ar := m.ar.pop } R) w' := by
  obtain ⟨r, hr⟩ : ∃ r : Nat, o.res = r := ⟨o.res.toNat, by have := cellE_pos hE; omega⟩
  obtain ⟨l, t, a, u, ce⟩ := x
  have H2 : Hd w0 _ ((w.alloc (.cells #[.int .i64 j.job, .int .i64 j.task, .int .i64 j.level, .int .i64 j.at_] 160)).alloc (.cells #[.int .i64 o.kind, .int .i64 o.res, .int .i64 o.n, .int .i64 o.v] 39)) := H.fol
  have HA := H2.drew
  have hc := unLoad (r := r) (n := v) (HA.k u) hu.ok hu.ok2 (job := j.job) (by rw [← hr]; exact hE) (by rw [hr] at hv; simpa using hv)
  rw [← hr] at hc
  replace hr := Lib.hid hr
  have hf := H2.facts
  simp only [Nat.reduceAdd] at hf
  go_split_ands
  clear H
  go_enter Tryz.func139, Tryz.ntmps139
  go_wp2_with fail
  refine wp_region_mix 16 [(0, true), (1, true), (2, true), (3, true), (4, true), (5, true), (6, true), (7, true), (8, true), (9, true), (10, true), (11, false), (12, true), (13, true), (14, true), (15, true)] (fun w' => w'.cell? ⟨c, 0, none⟩ = some (.pointer (some ⟨l, 0, none⟩)) ∧ w'.cell? ⟨l, 2, none⟩ = some (.pointer (some ⟨u, 0, none⟩)) ∧ w'.cell? ⟨w.heap.size, 0, none⟩ = some (.int .i64 j.job) ∧ w'.cell? ⟨w.heap.size + 1, 1, none⟩ = some (.int .i64 o.res)) (by kernel_rfl) (by kernel_rfl) (⟨(show _ = some _ from (HA.k c).ce 0 rfl), (show _ = some _ from (HA.k l).ce 2 rfl), (show _ = some _ from (HA.k w.heap.size).ce 0 rfl), (show _ = some _ from (HA.k (w.heap.size + 1)).ce 1 rfl)⟩) (fun _ _ d _ _ h => by cases d <;> exact h) ?_
  simp only [List.drop_succ_cons, List.drop_zero]
  iterate 11 (refine mix_head (o := _) (v := ?_) (by (simp only [List.getElem?_toArray, List.getElem?_cons_succ, List.getElem?_cons_zero]); rfl) (by rfl) (fun w' hS => ?_) ?_; rotate_left 1; (focus ((try dsimp only at hS); (try go_split_ands); go_simp; (try with_reducible rfl))); (try simp only [Act.put, List.setIfInBounds_toArray, List.set_cons_zero, List.set_cons_succ]))
  refine mix_mid (o := _) (by (simp only [List.getElem?_toArray, List.getElem?_cons_succ, List.getElem?_cons_zero]); rfl) ?_
  go_wp2_with fail
  refine hc.mono ?_
  rintro e w1 ⟨rfl, H3⟩
  clear hc
  go_wp2_with fail
  refine mixQ_in ⟨(show _ = some _ from (H3.k c).ce 0 rfl), (show _ = some _ from (H3.k l).ce 2 rfl), (show _ = some _ from (H3.k w.heap.size).ce 0 rfl), (show _ = some _ from (H3.k (w.heap.size + 1)).ce 1 rfl)⟩ ?_
  iterate 4 (refine mix_head (o := _) (v := ?_) (by (simp only [List.getElem?_toArray, List.getElem?_cons_succ, List.getElem?_cons_zero]); rfl) (by rfl) (fun w' hS => ?_) ?_; rotate_left 1; (focus ((try dsimp only at hS); (try go_split_ands); go_simp; (try with_reducible rfl))); (try simp only [Act.put, List.setIfInBounds_toArray, List.set_cons_zero, List.set_cons_succ]))
  refine mix_end ?_
  (try dsimp only)
  have hg := H3.facts
  simp only [Nat.reduceAdd] at hg
  go_split_ands
  have hc := arPop (H3.k a) hm
  rw [hp] at hc
  go_wp2_with fail
  refine hc.mono ?_
  rintro e w2 ⟨rfl, H4⟩
  clear hc
  go_wp2_with fail
  go_ret
  exact ⟨rfl, H4.re⟩
set_option maxRecDepth 20000 in
set_option maxHeartbeats 4000000 in
theorem coStore (H : Hd w0 (CoL c x vj tk S m R) w) (hm : m.ar.Ok) (hu : m.un.Inv) (j : ActM) (o : OpM) (hE : m.un.cellE j.job o.res = 0) {v : Int} (hv : m.un.cells[o.res.toNat]? = some v) (hp : m.ar.popE = 0) :
    Calls Tryz.prog 139 #[.pointer (some ⟨c, 0, none⟩), actV j, opV o] w fun e w' => e = .returned (.int .i64 0) ∧ Hd w0 (CoL c x vj tk S { m with ar := m.ar.pop, un := m.un.stored o.res.toNat m.ar.popV } R) w' := by
  obtain ⟨r, hr⟩ : ∃ r : Nat, o.res = r := ⟨o.res.toNat, by have := cellE_pos hE; omega⟩
  obtain ⟨l, t, a, u, ce⟩ := x
  have H2 : Hd w0 _ ((w.alloc (.cells #[.int .i64 j.job, .int .i64 j.task, .int .i64 j.level, .int .i64 j.at_] 160)).alloc (.cells #[.int .i64 o.kind, .int .i64 o.res, .int .i64 o.n, .int .i64 o.v] 39)) := H.fol
  have HA := H2.drew
  have hc := unLoad (r := r) (n := v) (HA.k u) hu.ok hu.ok2 (job := j.job) (by rw [← hr]; exact hE) (by rw [hr] at hv; simpa using hv)
  rw [← hr] at hc
  replace hr := Lib.hid hr
  have hf := H2.facts
  simp only [Nat.reduceAdd] at hf
  go_split_ands
  clear H
  go_enter Tryz.func139, Tryz.ntmps139
  go_wp2_with fail
  refine wp_region_mix 16 [(0, true), (1, true), (2, true), (3, true), (4, true), (5, true), (6, true), (7, true), (8, true), (9, true), (10, true), (11, false), (12, true), (13, true), (14, true), (15, true)] (fun w' => w'.cell? ⟨c, 0, none⟩ = some (.pointer (some ⟨l, 0, none⟩)) ∧ w'.cell? ⟨l, 2, none⟩ = some (.pointer (some ⟨u, 0, none⟩)) ∧ w'.cell? ⟨w.heap.size, 0, none⟩ = some (.int .i64 j.job) ∧ w'.cell? ⟨w.heap.size + 1, 1, none⟩ = some (.int .i64 o.res)) (by kernel_rfl) (by kernel_rfl) (⟨(show _ = some _ from (HA.k c).ce 0 rfl), (show _ = some _ from (HA.k l).ce 2 rfl), (show _ = some _ from (HA.k w.heap.size).ce 0 rfl), (show _ = some _ from (HA.k (w.heap.size + 1)).ce 1 rfl)⟩) (fun _ _ d _ _ h => by cases d <;> exact h) ?_
  simp only [List.drop_succ_cons, List.drop_zero]
  iterate 11 (refine mix_head (o := _) (v := ?_) (by (simp only [List.getElem?_toArray, List.getElem?_cons_succ, List.getElem?_cons_zero]); rfl) (by rfl) (fun w' hS => ?_) ?_; rotate_left 1; (focus ((try dsimp only at hS); (try go_split_ands); go_simp; (try with_reducible rfl))); (try simp only [Act.put, List.setIfInBounds_toArray, List.set_cons_zero, List.set_cons_succ]))
  refine mix_mid (o := _) (by (simp only [List.getElem?_toArray, List.getElem?_cons_succ, List.getElem?_cons_zero]); rfl) ?_
  go_wp2_with fail
  refine hc.mono ?_
  rintro e w1 ⟨rfl, H3⟩
  clear hc
  go_wp2_with fail
  refine mixQ_in ⟨(show _ = some _ from (H3.k c).ce 0 rfl), (show _ = some _ from (H3.k l).ce 2 rfl), (show _ = some _ from (H3.k w.heap.size).ce 0 rfl), (show _ = some _ from (H3.k (w.heap.size + 1)).ce 1 rfl)⟩ ?_
  iterate 4 (refine mix_head (o := _) (v := ?_) (by (simp only [List.getElem?_toArray, List.getElem?_cons_succ, List.getElem?_cons_zero]); rfl) (by rfl) (fun w' hS => ?_) ?_; rotate_left 1; (focus ((try dsimp only at hS); (try go_split_ands); go_simp; (try with_reducible rfl))); (try simp only [Act.put, List.setIfInBounds_toArray, List.set_cons_zero, List.set_cons_succ]))
  refine mix_end ?_
  (try dsimp only)
  have hg := H3.facts
  simp only [Nat.reduceAdd] at hg
  go_split_ands
  have hc := arPop (H3.k a) hm
  rw [hp] at hc
  go_wp2_with fail
  refine hc.mono ?_
  rintro e w2 ⟨rfl, H4⟩
  clear hc
  have H5 := H4.drew
  have hc := unStore (r := r) (n := v) (v := m.ar.popV) (H5.k u) hu.ok hu.ok2 (job := j.job) (by rw [← hr.out]; exact hE) (by rw [hr.out] at hv; simpa using hv)
  rw [← hr.out] at hc
  have hg2 := H4.facts
  simp only [Nat.reduceAdd] at hg2
  go_split_ands
  go_wp2_with fail
  refine wp_region_still_tail 12 (by kernel_rfl) (by kernel_rfl) ?_
  simp only [List.take_succ_cons, List.take_zero, List.drop_succ_cons, List.drop_zero, World.drew_eq]
  (repeat still_step)
  refine wpStill_nil ?_
  go_wp2_with fail
  refine hc.mono ?_
  rintro e w3 ⟨rfl, H6⟩
  clear hc
  go_wp2_with fail
  go_ret
  rw [show o.res.toNat = r by rw [hr.out]; rfl]
  exact ⟨rfl, H6.re⟩
set_option maxRecDepth 20000 in
set_option maxHeartbeats 4000000 in
theorem coAddNo (H : Hd w0 (CoL c x vj tk S m R) w) (hm : m.ar.Ok) (j : ActM) (o : OpM) {k : Nat} {f : FrM} (hk : m.ar.fr.length = k + 1) (hf0 : m.ar.fr[k]? = some f) (hlt : f.laid.length < 2) :
    Calls Tryz.prog 140 #[.pointer (some ⟨c, 0, none⟩), actV j, opV o] w fun e w' => e = .returned (.int .i64 10) ∧ Hd w0 (CoL c x vj tk S m R) w' := by
  obtain ⟨l, t, a, u, ce⟩ := x
  have H2 : Hd w0 _ ((w.alloc (.cells #[.int .i64 j.job, .int .i64 j.task, .int .i64 j.level, .int .i64 j.at_] 160)).alloc (.cells #[.int .i64 o.kind, .int .i64 o.res, .int .i64 o.n, .int .i64 o.v] 39)) := H.fol
  have HA := H2.drew
  have hd := arDepth (HA.k a)
  rw [hk] at hd
  have hfr := arFrame (HA.k a) hm k f hf0
  have q1 : (((k + 1 : Nat) : Int)) - 1 = k := by omega
  have q2 : IntKind.i64.wrap ((((k + 1 : Nat) : Int)) - 1) = k := by rw [q1]; exact IntWalk.i64_in _ (by have := hm.few; omega)
  obtain ⟨K, hK⟩ : ∃ K : Nat, k + 1 = K := ⟨_, rfl⟩
  rw [hK] at hd q2
  clear q1 hK
  have hf := H2.facts
  simp only [Nat.reduceAdd] at hf
  go_split_ands
  clear H
  obtain ⟨F, hF⟩ : ∃ F, f.laid.length = F := ⟨_, rfl⟩
  rw [hF] at hfr hlt
  have q3 : (F : Int) < 2 := by omega
  clear hF hlt hf0 hk
  go_enter Tryz.func140, Tryz.ntmps140
  go_wp2_with fail
  refine wp_region_mix 21 [(0, true), (1, true), (2, true), (3, true), (4, true), (5, true), (6, true), (7, true), (8, true), (9, true), (10, true), (11, true), (12, true), (13, true), (14, false), (15, true), (16, false), (17, true), (18, true), (19, true), (20, true)] (fun w' => w'.cell? ⟨c, 0, none⟩ = some (.pointer (some ⟨l, 0, none⟩)) ∧ w'.cell? ⟨l, 1, none⟩ = some (.pointer (some ⟨a, 0, none⟩))) (by kernel_rfl) (by kernel_rfl) (⟨(show _ = some _ from (HA.k c).ce 0 rfl), (show _ = some _ from (HA.k l).ce 1 rfl)⟩) (fun _ _ d _ _ h => by cases d <;> exact h) ?_
  simp only [List.drop_succ_cons, List.drop_zero]
  iterate 14 (refine mix_head (o := _) (v := ?_) (by (simp only [List.getElem?_toArray, List.getElem?_cons_succ, List.getElem?_cons_zero]); rfl) (by rfl) (fun w' hS => ?_) ?_; rotate_left 1; (focus ((try dsimp only at hS); (try go_split_ands); go_simp; (try with_reducible rfl))); (try simp only [Act.put, List.setIfInBounds_toArray, List.set_cons_zero, List.set_cons_succ]))
  refine mix_mid (o := _) (by (simp only [List.getElem?_toArray, List.getElem?_cons_succ, List.getElem?_cons_zero]); rfl) ?_
  go_wp2_with fail
  refine hd.mono ?_
  rintro e w1 ⟨rfl, rfl⟩
  clear hd
  go_wp2_with fail
  refine mixQ_in ⟨(show _ = some _ from (HA.k c).ce 0 rfl), (show _ = some _ from (HA.k l).ce 1 rfl)⟩ ?_
  iterate 1 (refine mix_head (o := _) (v := ?_) (by (simp only [List.getElem?_toArray, List.getElem?_cons_succ, List.getElem?_cons_zero]); rfl) (by rfl) (fun w' hS => ?_) ?_; rotate_left 1; (focus ((try dsimp only at hS); (try go_split_ands); go_simp; (try with_reducible rfl))); (try simp only [Act.put, List.setIfInBounds_toArray, List.set_cons_zero, List.set_cons_succ]))
  refine mix_mid (o := _) (by (simp only [List.getElem?_toArray, List.getElem?_cons_succ, List.getElem?_cons_zero]); rfl) ?_
  go_wp2_with fail
  refine hfr.mono ?_
  rintro e w1 ⟨g, rfl, H3⟩
  clear hfr
  go_wp2_with fail
  refine mixQ_in ⟨(show _ = some _ from (H3.k c).ce 0 rfl), (show _ = some _ from (H3.k l).ce 1 rfl)⟩ ?_
  iterate 4 (refine mix_head (o := _) (v := ?_) (by (simp only [List.getElem?_toArray, List.getElem?_cons_succ, List.getElem?_cons_zero]); rfl) (by rfl) (fun w' hS => ?_) ?_; rotate_left 1; (focus ((try dsimp only at hS); (try go_split_ands); go_simp; (try with_reducible rfl))); (try simp only [Act.put, List.setIfInBounds_toArray, List.set_cons_zero, List.set_cons_succ]))
  refine mix_end ?_
  (try dsimp only)
  go_wp2_with fail
  go_ret
  exact ⟨rfl, H3.re⟩
end
end Go.Proofs.YtogcikilphakmaaGreatDoor

/-
  Package core: add. Every core.
-/
namespace Go.Proofs.YtogcikilphakmaaGreatDoor
open Go.RowKit Spl

section
variable {w0 w : World} {R : List Pr} {c : Nat} {x : CoV} {vj : Value} {tk : TkM} {S : Hp} {m : CoM}
set_option maxRecDepth 20000 in
set_option maxHeartbeats 4000000 in
theorem coAdd (H : Hd w0 (CoL c x vj tk S m R) w) (hm : m.ar.Ok) (j : ActM) (o : OpM) {k : Nat} {f : FrM} (hk : m.ar.fr.length = k + 1) (hf0 : m.ar.fr[k]? = some f) (hlt : ¬ f.laid.length < 2) :
    Calls Tryz.prog 140 #[.pointer (some ⟨c, 0, none⟩), actV j, opV o] w fun e w' => e = .returned (.int .i64 m.ar.pop.pop.pushE) ∧ Hd w0 (CoL c x vj tk S { m with ar := m.ar.pop.pop.push (wrap64 (m.ar.pop.popV + m.ar.popV)) } R) w' := by
  obtain ⟨l, t, a, u, ce⟩ := x
  have H2 : Hd w0 _ ((w.alloc (.cells #[.int .i64 j.job, .int .i64 j.task, .int .i64 j.level, .int .i64 j.at_] 160)).alloc (.cells #[.int .i64 o.kind, .int .i64 o.res, .int .i64 o.n, .int .i64 o.v] 39)) := H.fol
  have HA := H2.drew
  have hd := arDepth (HA.k a)
  rw [hk] at hd
  have hfr := arFrame (HA.k a) hm k f hf0
  have q1 : (((k + 1 : Nat) : Int)) - 1 = k := by omega
  have q2 : IntKind.i64.wrap ((((k + 1 : Nat) : Int)) - 1) = k := by rw [q1]; exact IntWalk.i64_in _ (by have := hm.few; omega)
  obtain ⟨K, hK⟩ : ∃ K : Nat, k + 1 = K := ⟨_, rfl⟩
  rw [hK] at hd q2
  clear q1 hK
  have hf := H2.facts
  simp only [Nat.reduceAdd] at hf
  go_split_ands
  clear H
  obtain ⟨F, hF⟩ : ∃ F, f.laid.length = F := ⟨_, rfl⟩
  rw [hF] at hfr hlt
  have q3 : ¬ (F : Int) < 2 := by omega
  clear hF hlt hf0 hk
  have hm1 := ArM.Ok.pop hm
  have hm2 := ArM.Ok.pop hm1
  obtain ⟨P1, hP1⟩ : ∃ P1, m.ar.pop = P1 := ⟨_, rfl⟩
  obtain ⟨V1, hV1⟩ : ∃ V1, m.ar.popV = V1 := ⟨_, rfl⟩
  rw [hP1] at hm1 hm2 ⊢
  rw [hV1]
  obtain ⟨P2, hP2⟩ : ∃ P2, P1.pop = P2 := ⟨_, rfl⟩
  obtain ⟨V2, hV2⟩ : ∃ V2, P1.popV = V2 := ⟨_, rfl⟩
  rw [hP2] at hm2 ⊢
  rw [hV2]
  obtain ⟨E3, hE3⟩ : ∃ E3, P2.pushE = E3 := ⟨_, rfl⟩
  rw [hE3]
  replace hP1 := Lib.hid hP1
  replace hP2 := Lib.hid hP2
  replace hV1 := Lib.hid hV1
  replace hV2 := Lib.hid hV2
  replace hE3 := Lib.hid hE3
  go_enter Tryz.func140, Tryz.ntmps140
  go_wp2_with fail
  refine wp_region_mix 21 [(0, true), (1, true), (2, true), (3, true), (4, true), (5, true), (6, true), (7, true), (8, true), (9, true), (10, true), (11, true), (12, true), (13, true), (14, false), (15, true), (16, false), (17, true), (18, true), (19, true), (20, true)] (fun w' => w'.cell? ⟨c, 0, none⟩ = some (.pointer (some ⟨l, 0, none⟩)) ∧ w'.cell? ⟨l, 1, none⟩ = some (.pointer (some ⟨a, 0, none⟩))) (by kernel_rfl) (by kernel_rfl) (⟨(show _ = some _ from (HA.k c).ce 0 rfl), (show _ = some _ from (HA.k l).ce 1 rfl)⟩) (fun _ _ d _ _ h => by cases d <;> exact h) ?_
  simp only [List.drop_succ_cons, List.drop_zero]
  iterate 14 (refine mix_head (o := _) (v := ?_) (by (simp only [List.getElem?_toArray, List.getElem?_cons_succ, List.getElem?_cons_zero]); rfl) (by rfl) (fun w' hS => ?_) ?_; rotate_left 1; (focus ((try dsimp only at hS); (try go_split_ands); go_simp; (try with_reducible rfl))); (try simp only [Act.put, List.setIfInBounds_toArray, List.set_cons_zero, List.set_cons_succ]))
  refine mix_mid (o := _) (by (simp only [List.getElem?_toArray, List.getElem?_cons_succ, List.getElem?_cons_zero]); rfl) ?_
  go_wp2_with fail
  refine hd.mono ?_
  rintro e w1 ⟨rfl, rfl⟩
  clear hd
  go_wp2_with fail
  refine mixQ_in ⟨(show _ = some _ from (HA.k c).ce 0 rfl), (show _ = some _ from (HA.k l).ce 1 rfl)⟩ ?_
  iterate 1 (refine mix_head (o := _) (v := ?_) (by (simp only [List.getElem?_toArray, List.getElem?_cons_succ, List.getElem?_cons_zero]); rfl) (by rfl) (fun w' hS => ?_) ?_; rotate_left 1; (focus ((try dsimp only at hS); (try go_split_ands); go_simp; (try with_reducible rfl))); (try simp only [Act.put, List.setIfInBounds_toArray, List.set_cons_zero, List.set_cons_succ]))
  refine mix_mid (o := _) (by (simp only [List.getElem?_toArray, List.getElem?_cons_succ, List.getElem?_cons_zero]); rfl) ?_
  go_wp2_with fail
  refine hfr.mono ?_
  rintro e w1 ⟨g, rfl, H3⟩
  clear hfr
  go_wp2_with fail
  refine mixQ_in ⟨(show _ = some _ from (H3.k c).ce 0 rfl), (show _ = some _ from (H3.k l).ce 1 rfl)⟩ ?_
  iterate 4 (refine mix_head (o := _) (v := ?_) (by (simp only [List.getElem?_toArray, List.getElem?_cons_succ, List.getElem?_cons_zero]); rfl) (by rfl) (fun w' hS => ?_) ?_; rotate_left 1; (focus ((try dsimp only at hS); (try go_split_ands); go_simp; (try with_reducible rfl))); (try simp only [Act.put, List.setIfInBounds_toArray, List.set_cons_zero, List.set_cons_succ]))
  refine mix_end ?_
  (try dsimp only)
  have hg := H3.facts
  simp only [Nat.reduceAdd] at hg
  go_split_ands
  have hc := arPop (H3.k a) hm
  rw [hP1.out, hV1.out] at hc
  go_wp2_with fail
  refine hc.mono ?_
  rintro e w2 ⟨rfl, H4⟩
  clear hc
  have hc := arPop (H4.k a) hm1
  rw [hP2.out, hV2.out] at hc
  have hg2 := H4.facts
  simp only [Nat.reduceAdd] at hg2
  go_split_ands
  go_wp2_with fail
  refine hc.mono ?_
  rintro e w3 ⟨rfl, H5⟩
  clear hc
  have hc := arPush (H5.k a) hm2 (wrap64 (V2 + V1))
  rw [hE3.out] at hc
  have hg3 := H5.facts
  simp only [Nat.reduceAdd] at hg3
  go_split_ands
  go_wp2_with fail
  refine hc.mono ?_
  rintro e w4 ⟨rfl, H6⟩
  clear hc
  go_wp2_with fail
  go_ret
  exact ⟨rfl, H6.re⟩
end
end Go.Proofs.YtogcikilphakmaaGreatDoor
