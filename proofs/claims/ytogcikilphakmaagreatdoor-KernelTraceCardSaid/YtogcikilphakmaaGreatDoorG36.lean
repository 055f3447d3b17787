/-
  Merged texts of one proof: Co2, Co2b.
-/
import Derived.Test.YtogcikilphakmaaGreatDoorG35

/-
  Package core: store, add. Every core.
-/
namespace Go.Proofs.YtogcikilphakmaaGreatDoor
open Go.RowKit Spl

section
variable {w0 w : World} {R : List Pr} {c : Nat} {x : CoV} {vj : Value} {tk : TkM} {S : Hp} {m : CoM}
set_option maxRecDepth 20000 in
set_option maxHeartbeats 4000000 in
theorem coStoreNo (H : Hd w0 (CoL c x vj tk S m R) w) (hu : m.un.Inv) (j : ActM) (o : OpM) {E : Int} (hE : m.un.cellE j.job o.res = E) (hn : ¬ E = 0) :
    Calls Tryz.prog 139 #[.pointer (some ⟨c, 0, none⟩), actV j, opV o] w fun e w' => e = .returned (.int .i64 E) ∧ Hd w0 (CoL c x vj tk S m R) w' := by
  obtain ⟨l, t, a, u, ce⟩ := x
  have H2 : Hd w0 _ ((w.alloc (.cells #[.int .i64 j.job, .int .i64 j.task, .int .i64 j.level, .int .i64 j.at_] 160)).alloc (.cells #[.int .i64 o.kind, .int .i64 o.res, .int .i64 o.n, .int .i64 o.v] 39)) := H.fol
  have HA := H2.drew
  have hc := unLoadNo (HA.k u) hu.ok hu.ok2 (job := j.job) (res := o.res) (by rw [hE]; exact hn)
  rw [hE] at hc
  have hf := H2.facts
  simp only [Nat.reduceAdd] at hf
  go_split_ands
  clear H
  go_enter Tryz.func139, Tryz.ntmps139
  go_wp2_with fail
  refine wp_region_mix 16 [(0, true), (1, true), (2, true), (3, true), (4, true), (5, true), (6, true), (7, true), (8, true), (9, true), (10, true), (11, false), (12, true), (13, true), (14, true), (15, true)] (fun w' => w'.cell? ⟨c, 0, none⟩ = some (.pointer (some ⟨l, 0, none⟩)) ∧ w'.cell? ⟨l, 2, none⟩ = some (.pointer (some ⟨u, 0, none⟩)) ∧ w'.cell? ⟨w.heap.size, 0, none⟩ = some (.int .i64 j.job) ∧ w'.cell? ⟨w.heap.size + 1, 1, none⟩ = some (.int .i64 o.res)) (by kernel_rfl) (by kernel_rfl) (⟨(show _ = some _ from (HA.k c).ce 0 rfl), (show _ = some _ from (HA.k l).ce 2 rfl), (show _ = some _ from (HA.k w.heap.size).ce 0 rfl), (show _ = some _ from (HA.k (w.heap.size + 1)).ce 1 rfl)⟩) (fun _ _ d _ _ h => by cases d <;> exact h) ?_
  simp only [List.drop_succ_cons, List.drop_zero]
  iterate 11 (refine mix_head (o := _) (v := ?_) (by (simp only [List.getElem?_toArray, List.getElem?_cons_succ, List.getElem?_cons_zero]); rfl) (by rfl) (fun w' hS => ?_) ?_; rotate_left 1; (focus ((try dsimp only at hS); (try go_split_ands); go_simp; (try with_reducible rfl))); (try simp only [Act.put, List.setIfInBounds_toArray, List.set_cons_zero, List.set_cons_succ]))
  refine mix_mid (o := _) (by (simp only [List.getElem?_toArray, List.getElem?_cons_succ, List.getElem?_cons_zero]); rfl) ?_
  go_wp2_with fail
  refine hc.mono ?_
  rintro e w1 ⟨rfl, H3⟩
  clear hc
  go_wp2_with fail
  refine mixQ_in ⟨(show _ = some _ from (H3.k c).ce 0 rfl), (show _ = some _ from (H3.k l).ce 2 rfl), (show _ = some _ from (H3.k w.heap.size).ce 0 rfl), (show _ = some _ from (H3.k (w.heap.size + 1)).ce 1 rfl)⟩ ?_
  iterate 4 (refine mix_head (o := _) (v := ?_) (by (simp only [List.getElem?_toArray, List.getElem?_cons_succ, List.getElem?_cons_zero]); rfl) (by rfl) (fun w' hS => ?_) ?_; rotate_left 1; (focus ((try dsimp only at hS); (try go_split_ands); go_simp; (try with_reducible rfl))); (try simp only [Act.put, List.setIfInBounds_toArray, List.set_cons_zero, List.set_cons_succ]))
  refine mix_end ?_
  (try dsimp only)
  go_wp2_with fail
  go_ret
  exact ⟨rfl, H3.re⟩
set_option maxRecDepth 20000 in
set_option maxHeartbeats 4000000 in
theorem coStoreEmpty (H : Hd w0 (CoL c x vj tk S m R) w) (hm : m.ar.Ok) (hu : m.un.Inv) (j : ActM) (o : OpM) (hE : m.un.cellE j.job o.res = 0) {v : Int} (hv : m.un.cells[o.res.toNat]? = some v) {E : Int} (hp : m.ar.popE = E) (hn : ¬ E = 0) :
    Calls Tryz.prog 139 #[.pointer (some ⟨c, 0, none⟩), actV j, opV o] w fun e w' => e = .returned (.int .i64 E) ∧ Hd w0 (CoL c x vj tk S { m with ar := m.ar.pop } R) w' := by
  obtain ⟨r, hr⟩ : ∃ r : Nat, o.res = r := ⟨o.res.toNat, by have := cellE_pos hE; omega⟩
  obtain ⟨l, t, a, u, ce⟩ := x
  have H2 : Hd w0 _ ((w.alloc (.cells #[.int .i64 j.job, .int .i64 j.task, .int .i64 j.level, .int .i64 j.at_] 160)).alloc (.cells #[.int .i64 o.kind, .int .i64 o.res, .int .i64 o.n, .int .i64 o.v] 39)) := H.fol
  have HA := H2.drew
  have hc := unLoad (r := r) (n := v) (HA.k u) hu.ok hu.ok2 (job := j.job) (by rw [← hr]; exact hE) (by rw [hr] at hv; simpa using hv)
  rw [← hr] at hc
  replace hr := Lib.hid hr
  have hf := H2.facts
  simp only [Nat.reduceAdd] at hf
  go_split_ands
  clear H
  go_enter Tryz.func139, Tryz.ntmps139
  go_wp2_with fail
  refine wp_region_mix 16 [(0, true), (1, true), (2, true), (3, true), (4, true), (5, true), (6, true), (7, true), (8, true), (9, true), (10, true), (11, false), (12, true), (13, true), (14, true), (15, true)] (fun w' => w'.cell? ⟨c, 0, none⟩ = some (.pointer (some ⟨l, 0, none⟩)) ∧ w'.cell? ⟨l, 2, none⟩ = some (.pointer (some ⟨u, 0, none⟩)) ∧ w'.cell? ⟨w.heap.size, 0, none⟩ = some (.int .i64 j.job) ∧ w'.cell? ⟨w.heap.size + 1, 1, none⟩ = some (.int .i64 o.res)) (by kernel_rfl) (by kernel_rfl) (⟨(show _ = some _ from (HA.k c).ce 0 rfl), (show _ = some _ from (HA.k l).ce 2 rfl), (show _ = some _ from (HA.k w.heap.size).ce 0 rfl), (show _ = some _ from (HA.k (w.heap.size + 1)).ce 1 rfl)⟩) (fun _ _ d _ _ h => by cases d <;> exact h) ?_
  simp only [List.drop_succ_cons, List.drop_zero]
  iterate 11 (refine mix_head (o := _) (v := ?_) (by (simp only [List.getElem?_toArray, List.getElem?_cons_succ, List.getElem?_cons_zero]); rfl) (by rfl) (fun w' hS => ?_) ?_; rotate_left 1; (focus ((try dsimp only at hS); (try go_split_ands); go_simp; (try with_reducible rfl))); (try simp only [Act.put, List.setIfInBounds_toArray, List.set_cons_zero, List.set_cons_succ]))
  refine mix_mid (o := _) (by (simp only [List.getElem?_toArray, List.getElem?_cons_succ, List.getElem?_cons_zero]); rfl) ?_
  go_wp2_with fail
  refine hc.mono ?_
  rintro e w1 ⟨rfl, H3⟩
  clear hc
  go_wp2_with fail
  refine mixQ_in ⟨(show _ = some _ from (H3.k c).ce 0 rfl), (show _ = some _ from (H3.k l).ce 2 rfl), (show _ = some _ from (H3.k w.heap.size).ce 0 rfl), (show _ = some _ from (H3.k (w.heap.size + 1)).ce 1 rfl)⟩ ?_
  iterate 4 (refine mix_head (o := _) (v := ?_) (by (simp only [List.getElem?_toArray, List.getElem?_cons_succ, List.getElem?_cons_zero]); rfl) (by rfl) (fun w' hS => ?_) ?_; rotate_left 1; (focus ((try dsimp only at hS); (try go_split_ands); go_simp; (try with_reducible rfl))); (try simp only [Act.put, List.setIfInBounds_toArray, List.set_cons_zero, List.set_cons_succ]))
  refine mix_end ?_
  (try dsimp only)
  have hg := H3.facts
  simp only [Nat.reduceAdd] at hg
  go_split_ands
  have hc := arPop (H3.k a) hm
  rw [hp] at hc
  go_wp2_with fail
  refine hc.mono ?_
  rintro e w2 ⟨rfl, H4⟩
  clear hc
  go_wp2_with fail
  go_ret
  exact ⟨rfl, H4.re⟩
set_option maxRecDepth 20000 in
set_option maxHeartbeats 4000000 in
theorem coStore (H : Hd w0 (CoL c x vj tk S m R) w) (hm : m.ar.Ok) (hu : m.un.Inv) (j : ActM) (o : OpM) (hE : m.un.cellE j.job o.res = 0) {v : Int} (hv : m.un.cells[o.res.toNat]? = some v) (hp : m.ar.popE = 0) :
    Calls Tryz.prog 139 #[.pointer (some ⟨c, 0, none⟩), actV j, opV o] w fun e w' => e = .returned (.int .i64 0) ∧ Hd w0 (CoL c x vj tk S { m with ar := m.ar.pop, un := m.un.stored o.res.toNat m.ar.popV } R) w' := by
  obtain ⟨r, hr⟩ : ∃ r : Nat, o.res = r := ⟨o.res.toNat, by have := cellE_pos hE; omega⟩
  obtain ⟨l, t, a, u, ce⟩ := x
  have H2 : Hd w0 _ ((w.alloc (.cells #[.int .i64 j.job, .int .i64 j.task, .int .i64 j.level, .int .i64 j.at_] 160)).alloc (.cells #[.int .i64 o.kind, .int .i64 o.res, .int .i64 o.n, .int .i64 o.v] 39)) := H.fol
  have HA := H2.drew
  have hc := unLoad (r := r) (n := v) (HA.k u) hu.ok hu.ok2 (job := j.job) (by rw [← hr]; exact hE) (by rw [hr] at hv; simpa using hv)
  rw [← hr] at hc
  replace hr := Lib.hid hr
  have hf := H2.facts
  simp only [Nat.reduceAdd] at hf
  go_split_ands
  clear H
  go_enter Tryz.func139, Tryz.ntmps139
  go_wp2_with fail
  refine wp_region_mix 16 [(0, true), (1, true), (2, true), (3, true), (4, true), (5, true), (6, true), (7, true), (8, true), (9, true), (10, true), (11, false), (12, true), (13, true), (14, true), (15, true)] (fun w' => w'.cell? ⟨c, 0, none⟩ = some (.pointer (some ⟨l, 0, none⟩)) ∧ w'.cell? ⟨l, 2, none⟩ = some (.pointer (some ⟨u, 0, none⟩)) ∧ w'.cell? ⟨w.heap.size, 0, none⟩ = some (.int .i64 j.job) ∧ w'.cell? ⟨w.heap.size + 1, 1, none⟩ = some (.int .i64 o.res)) (by kernel_rfl) (by kernel_rfl) (⟨(show _ = some _ from (HA.k c).ce 0 rfl), (show _ = some _ from (HA.k l).ce 2 rfl), (show _ = some _ from (HA.k w.heap.size).ce 0 rfl), (show _ = some _ from (HA.k (w.heap.size + 1)).ce 1 rfl)⟩) (fun _ _ d _ _ h => by cases d <;> exact h) ?_
  simp only [List.drop_succ_cons, List.drop_zero]
  iterate 11 (refine mix_head (o := _) (v := ?_) (by (simp only [List.getElem?_toArray, List.getElem?_cons_succ, List.getElem?_cons_zero]); rfl) (by rfl) (fun w' hS => ?_) ?_; rotate_left 1; (focus ((try dsimp only at hS); (try go_split_ands); go_simp; (try with_reducible rfl))); (try simp only [Act.put, List.setIfInBounds_toArray, List.set_cons_zero, List.set_cons_succ]))
  refine mix_mid (o := _) (by (simp only [List.getElem?_toArray, List.getElem?_cons_succ, List.getElem?_cons_zero]); rfl) ?_
  go_wp2_with fail
  refine hc.mono ?_
  rintro e w1 ⟨rfl, H3⟩
  clear hc
  go_wp2_with fail
  refine mixQ_in ⟨(show _ = some _ from (H3.k c).ce 0 rfl), (show _ = some _ from (H3.k l).ce 2 rfl), (show _ = some _ from (H3.k w.heap.size).ce 0 rfl), (show _ = some _ from (H3.k (w.heap.size + 1)).ce 1 rfl)⟩ ?_
  iterate 4 (refine mix_head (o := _) (v := ?_) (by (simp only [List.getElem?_toArray, List.getElem?_cons_succ, List.getElem?_cons_zero]); rfl) (by rfl) (fun w' hS => ?_) ?_; rotate_left 1; (focus ((try dsimp only at hS); (try go_split_ands); go_simp; (try with_reducible rfl))); (try simp only [Act.put, List.setIfInBounds_toArray, List.set_cons_zero, List.set_cons_succ]))
  refine mix_end ?_
  (try dsimp only)
  have hg := H3.facts
  simp only [Nat.reduceAdd] at hg
  go_split_ands
  have hc := arPop (H3.k a) hm
  rw [hp] at hc
  go_wp2_with fail
  refine hc.mono ?_
  rintro e w2 ⟨rfl, H4⟩
  clear hc
  have H5 := H4.drew
  have hc := unStore (r := r) (n := v) (v := m.ar.popV) (H5.k u) hu.ok hu.ok2 (job := j.job) (by rw [← hr.out]; exact hE) (by rw [hr.out] at hv; simpa using hv)
  rw [← hr.out] at hc
  have hg2 := H4.facts
  simp only [Nat.reduceAdd] at hg2
  go_split_ands
  go_wp2_with fail
  refine wp_region_still_tail 12 (by kernel_rfl) (by kernel_rfl) ?_
  simp only [List.take_succ_cons, List.take_zero, List.drop_succ_cons, List.drop_zero, World.drew_eq]
  (repeat still_step)
  refine wpStill_nil ?_
  go_wp2_with fail
  refine hc.mono ?_
  rintro e w3 ⟨rfl, H6⟩
  clear hc
  go_wp2_with fail
  go_ret
  rw [show o.res.toNat = r by rw [hr.out]; rfl]
  exact ⟨rfl, H6.re⟩
set_option maxRecDepth 20000 in
set_option maxHeartbeats 4000000 in
theorem coAddNo (H : Hd w0 (CoL c x vj tk S m R) w) (hm : m.ar.Ok) (j : ActM) (o : OpM) {k : Nat} {f : FrM} (hk : m.ar.fr.length = k + 1) (hf0 : m.ar.fr[k]? = some f) (hlt : f.laid.length < 2) :
    Calls Tryz.prog 140 #[.pointer (some ⟨c, 0, none⟩), actV j, opV o] w fun e w' => e = .returned (.int .i64 10) ∧ Hd w0 (CoL c x vj tk S m R) w' := by
  obtain ⟨l, t, a, u, ce⟩ := x
  have H2 : Hd w0 _ ((w.alloc (.cells #[.int .i64 j.job, .int .i64 j.task, .int .i64 j.level, .int .i64 j.at_] 160)).alloc (.cells #[.int .i64 o.kind, .int .i64 o.res, .int .i64 o.n, .int .i64 o.v] 39)) := H.fol
  have HA := H2.drew
  have hd := arDepth (HA.k a)
  rw [hk] at hd
  have hfr := arFrame (HA.k a) hm k f hf0
  have q1 : (((k + 1 : Nat) : Int)) - 1 = k := by omega
  have q2 : IntKind.i64.wrap ((((k + 1 : Nat) : Int)) - 1) = k := by rw [q1]; exact IntWalk.i64_in _ (by have := hm.few; omega)
  obtain ⟨K, hK⟩ : ∃ K : Nat, k + 1 = K := ⟨_, rfl⟩
  rw [hK] at hd q2
  clear q1 hK
  have hf := H2.facts
  simp only [Nat.reduceAdd] at hf
  go_split_ands
  clear H
  obtain ⟨F, hF⟩ : ∃ F, f.laid.length = F := ⟨_, rfl⟩
  rw [hF] at hfr hlt
  have q3 : (F : Int) < 2 := by omega
  clear hF hlt hf0 hk
  go_enter Tryz.func140, Tryz.ntmps140
  go_wp2_with fail
  refine wp_region_mix 21 [(0, true), (1, true), (2, true), (3, true), (4, true), (5, true), (6, true), (7, true), (8, true), (9, true), (10, true), (11, true), (12, true), (13, true), (14, false), (15, true), (16, false), (17, true), (18, true), (19, true), (20, true)] (fun w' => w'.cell? ⟨c, 0, none⟩ = some (.pointer (some ⟨l, 0, none⟩)) ∧ w'.cell? ⟨l, 1, none⟩ = some (.pointer (some ⟨a, 0, none⟩))) (by kernel_rfl) (by kernel_rfl) (⟨(show _ = some _ from (HA.k c).ce 0 rfl), (show _ = some _ from (HA.k l).ce 1 rfl)⟩) (fun _ _ d _ _ h => by cases d <;> exact h) ?_
  simp only [List.drop_succ_cons, List.drop_zero]
  iterate 14 (refine mix_head (o := _) (v := ?_) (by (simp only [List.getElem?_toArray, List.getElem?_cons_succ, List.getElem?_cons_zero]); rfl) (by rfl) (fun w' hS => ?_) ?_; rotate_left 1; (focus ((try dsimp only at hS); (try go_split_ands); go_simp; (try with_reducible rfl))); (try simp only [Act.put, List.setIfInBounds_toArray, List.set_cons_zero, List.set_cons_succ]))
  refine mix_mid (o := _) (by (simp only [List.getElem?_toArray, List.getElem?_cons_succ, List.getElem?_cons_zero]); rfl) ?_
  go_wp2_with fail
  refine hd.mono ?_
  rintro e w1 ⟨rfl, rfl⟩
  clear hd
  go_wp2_with fail
  refine mixQ_in ⟨(show _ = some _ from (HA.k c).ce 0 rfl), (show _ = some _ from (HA.k l).ce 1 rfl)⟩ ?_
  iterate 1 (refine mix_head (o := _) (v := ?_) (by (simp only [List.getElem?_toArray, List.getElem?_cons_succ, List.getElem?_cons_zero]); rfl) (by rfl) (fun w' hS => ?_) ?_; rotate_left 1; (focus ((try dsimp only at hS); (try go_split_ands); go_simp; (try with_reducible rfl))); (try simp only [Act.put, List.setIfInBounds_toArray, List.set_cons_zero, List.set_cons_succ]))
  refine mix_mid (o := _) (by (simp only [List.getElem?_toArray, List.getElem?_cons_succ, List.getElem?_cons_zero]); rfl) ?_
  go_wp2_with fail
  refine hfr.mono ?_
  rintro e w1 ⟨g, rfl, H3⟩
  clear hfr
  go_wp2_with fail
  refine mixQ_in ⟨(show _ = some _ from (H3.k c).ce 0 rfl), (show _ = some _ from (H3.k l).ce 1 rfl)⟩ ?_
  iterate 4 (refine mix_head (o := _) (v := ?_) (by (simp only [List.getElem?_toArray, List.getElem?_cons_succ, List.getElem?_cons_zero]); rfl) (by rfl) (fun w' hS => ?_) ?_; rotate_left 1; (focus ((try dsimp only at hS); (try go_split_ands); go_simp; (try with_reducible rfl))); (try simp only [Act.put, List.setIfInBounds_toArray, List.set_cons_zero, List.set_cons_succ]))
  refine mix_end ?_
  (try dsimp only)
  go_wp2_with fail
  go_ret
  exact ⟨rfl, H3.re⟩
end
end Go.Proofs.YtogcikilphakmaaGreatDoor

/-
  Package core: add. Every core.
-/
namespace Go.Proofs.YtogcikilphakmaaGreatDoor
open Go.RowKit Spl

section
variable {w0 w : World} {R : List Pr} {c : Nat} {x : CoV} {vj : Value} {tk : TkM} {S : Hp} {m : CoM}
set_option maxRecDepth 20000 in
set_option maxHeartbeats 4000000 in
theorem coAdd (H : Hd w0 (CoL c x vj tk S m R) w) (hm : m.ar.Ok) (j : ActM) (o : OpM) {k : Nat} {f : FrM} (hk : m.ar.fr.length = k + 1) (hf0 : m.ar.fr[k]? = some f) (hlt : ¬ f.laid.length < 2) :
    Calls Tryz.prog 140 #[.pointer (some ⟨c, 0, none⟩), actV j, opV o] w fun e w' => e = .returned (.int .i64 m.ar.pop.pop.pushE) ∧ Hd w0 (CoL c x vj tk S { m with ar := m.ar.pop.pop.push (wrap64 (m.ar.pop.popV + m.ar.popV)) } R) w' := by
  obtain ⟨l, t, a, u, ce⟩ := x
  have H2 : Hd w0 _ ((w.alloc (.cells #[.int .i64 j.job, .int .i64 j.task, .int .i64 j.level, .int .i64 j.at_] 160)).alloc (.cells #[.int .i64 o.kind, .int .i64 o.res, .int .i64 o.n, .int .i64 o.v] 39)) := H.fol
  have HA := H2.drew
  have hd := arDepth (HA.k a)
  rw [hk] at hd
  have hfr := arFrame (HA.k a) hm k f hf0
  have q1 : (((k + 1 : Nat) : Int)) - 1 = k := by omega
  have q2 : IntKind.i64.wrap ((((k + 1 : Nat) : Int)) - 1) = k := by rw [q1]; exact IntWalk.i64_in _ (by have := hm.few; omega)
  obtain ⟨K, hK⟩ : ∃ K : Nat, k + 1 = K := ⟨_, rfl⟩
  rw [hK] at hd q2
  clear q1 hK
  have hf := H2.facts
  simp only [Nat.reduceAdd] at hf
  go_split_ands
  clear H
  obtain ⟨F, hF⟩ : ∃ F, f.laid.length = F := ⟨_, rfl⟩
  rw [hF] at hfr hlt
  have q3 : ¬ (F : Int) < 2 := by omega
  clear hF hlt hf0 hk
  have hm1 := ArM.Ok.pop hm
  have hm2 := ArM.Ok.pop hm1
  obtain ⟨P1, hP1⟩ : ∃ P1, m.ar.pop = P1 := ⟨_, rfl⟩
  obtain ⟨V1, hV1⟩ : ∃ V1, m.ar.popV = V1 := ⟨_, rfl⟩
  rw [hP1] at hm1 hm2 ⊢
  rw [hV1]
  obtain ⟨P2, hP2⟩ : ∃ P2, P1.pop = P2 := ⟨_, rfl⟩
  obtain ⟨V2, hV2⟩ : ∃ V2, P1.popV = V2 := ⟨_, rfl⟩
  rw [hP2] at hm2 ⊢
  rw [hV2]
  obtain ⟨E3, hE3⟩ : ∃ E3, P2.pushE = E3 := ⟨_, rfl⟩
  rw [hE3]
  replace hP1 := Lib.hid hP1
  replace hP2 := Lib.hid hP2
  replace hV1 := Lib.hid hV1
  replace hV2 := Lib.hid hV2
  replace hE3 := Lib.hid hE3
  go_enter Tryz.func140, Tryz.ntmps140
  go_wp2_with fail
  refine wp_region_mix 21 [(0, true), (1, true), (2, true), (3, true), (4, true), (5, true), (6, true), (7, true), (8, true), (9, true), (10, true), (11, true), (12, true), (13, true), (14, false), (15, true), (16, false), (17, true), (18, true), (19, true), (20, true)] (fun w' => w'.cell? ⟨c, 0, none⟩ = some (.pointer (some ⟨l, 0, none⟩)) ∧ w'.cell? ⟨l, 1, none⟩ = some (.pointer (some ⟨a, 0, none⟩))) (by kernel_rfl) (by kernel_rfl) (⟨(show _ = some _ from (HA.k c).ce 0 rfl), (show _ = some _ from (HA.k l).ce 1 rfl)⟩) (fun _ _ d _ _ h => by cases d <;> exact h) ?_
  simp only [List.drop_succ_cons, List.drop_zero]
  iterate 14 (refine mix_head (o := _) (v := ?_) (by (simp only [List.getElem?_toArray, List.getElem?_cons_succ, List.getElem?_cons_zero]); rfl) (by rfl) (fun w' hS => ?_) ?_; rotate_left 1; (focus ((try dsimp only at hS); (try go_split_ands); go_simp; (try with_reducible rfl))); (try simp only [Act.put, List.setIfInBounds_toArray, List.set_cons_zero, List.set_cons_succ]))
  refine mix_mid (o := _) (by (simp only [List.getElem?_toArray, List.getElem?_cons_succ, List.getElem?_cons_zero]); rfl) ?_
  go_wp2_with fail
  refine hd.mono ?_
  rintro e w1 ⟨rfl, rfl⟩
  clear hd
  go_wp2_with fail
  refine mixQ_in ⟨(show _ = some _ from (HA.k c).ce 0 rfl), (show _ = some _ from (HA.k l).ce 1 rfl)⟩ ?_
  iterate 1 (refine mix_head (o := _) (v := ?_) (by (simp only [List.getElem?_toArray, List.getElem?_cons_succ, List.getElem?_cons_zero]); rfl) (by rfl) (fun w' hS => ?_) ?_; rotate_left 1; (focus ((try dsimp only at hS); (try go_split_ands); go_simp; (try with_reducible rfl))); (try simp only [Act.put, List.setIfInBounds_toArray, List.set_cons_zero, List.set_cons_succ]))
  refine mix_mid (o := _) (by (simp only [List.getElem?_toArray, List.getElem?_cons_succ, List.getElem?_cons_zero]); rfl) ?_
  go_wp2_with fail
  refine hfr.mono ?_
  rintro e w1 ⟨g, rfl, H3⟩
  clear hfr
  go_wp2_with fail
  refine mixQ_in ⟨(show _ = some _ from (H3.k c).ce 0 rfl), (show _ = some _ from (H3.k l).ce 1 rfl)⟩ ?_
  iterate 4 (refine mix_head (o := _) (v := ?_) (by (simp only [List.getElem?_toArray, List.getElem?_cons_succ, List.getElem?_cons_zero]); rfl) (by rfl) (fun w' hS => ?_) ?_; rotate_left 1; (focus ((try dsimp only at hS); (try go_split_ands); go_simp; (try with_reducible rfl))); (try simp only [Act.put, List.setIfInBounds_toArray, List.set_cons_zero, List.set_cons_succ]))
  refine mix_end ?_
  (try dsimp only)
  have hg := H3.facts
  simp only [Nat.reduceAdd] at hg
  go_split_ands
  have hc := arPop (H3.k a) hm
  rw [hP1.out, hV1.out] at hc
  go_wp2_with fail
  refine hc.mono ?_
  rintro e w2 ⟨rfl, H4⟩
  clear hc
  have hc := arPop (H4.k a) hm1
  rw [hP2.out, hV2.out] at hc
  have hg2 := H4.facts
  simp only [Nat.reduceAdd] at hg2
  go_split_ands
  go_wp2_with fail
  refine hc.mono ?_
  rintro e w3 ⟨rfl, H5⟩
  clear hc
  have hc := arPush (H5.k a) hm2 (wrap64 (V2 + V1))
  rw [hE3.out] at hc
  have hg3 := H5.facts
  simp only [Nat.reduceAdd] at hg3
  go_split_ands
  go_wp2_with fail
  refine hc.mono ?_
  rintro e w4 ⟨rfl, H6⟩
  clear hc
  go_wp2_with fail
  go_ret
  exact ⟨rfl, H6.re⟩
end
end Go.Proofs.YtogcikilphakmaaGreatDoor
