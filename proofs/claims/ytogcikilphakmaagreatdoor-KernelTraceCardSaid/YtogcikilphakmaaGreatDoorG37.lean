/-
  Merged texts of one proof: Co3, Co4, Co5, Co6.
-/
import Derived.Test.YtogcikilphakmaaGreatDoorG05
import Derived.Test.YtogcikilphakmaaGreatDoorG35
import Derived.Test.YtogcikilphakmaaGreatDoorG36

/-
  Package core: lock. Every core.
-/
namespace Go.Proofs.YtogcikilphakmaaGreatDoor
open Go.RowKit Spl

theorem lockE_pos {m : UnM} {job res n need : Int} (h : m.lockE job res n need = 0) : 0 ≤ res ∧ res < m.units.length ∧ 0 ≤ job ∧ 1 ≤ n := by
  unfold UnM.lockE at h
  split at h
  · cases h
  · omega
theorem locked_units (m : UnM) (job : Int) (r : Nat) (n : Int) : (m.locked job r n).units = m.units := by
  unfold UnM.locked
  split <;> rfl
section
variable {w0 w : World} {R : List Pr} {c : Nat} {x : CoV} {vj : Value} {tk : TkM} {S : Hp} {m : CoM}
set_option maxRecDepth 20000 in
set_option maxHeartbeats 4000000 in
theorem coLockNo (H : Hd w0 (CoL c x vj tk S m R) w) (ht : tk.Ok) (hu : m.un.Inv) {job lv at_ : Int} {i : Nat} {r : RowM} (hr : tk.rows[i]? = some r) (o : OpM) (hn : -100000 ≤ o.n ∧ o.n ≤ 100000) {E : Int} (hE : m.un.lockE job o.res o.n (needOf r.t.needs o.res) = E) (h0 : ¬ E = 0) :
    Calls Tryz.prog 133 #[.pointer (some ⟨c, 0, none⟩), actV ⟨job, (i : Int), lv, at_⟩, opV o] w fun e w' => e = .returned (.int .i64 E) ∧ Hd w0 (CoL c x vj tk S m R) w' := by
  obtain ⟨l, t, a, u, ce⟩ := x
  have H2 : Hd w0 _ ((w.alloc (.cells #[.int .i64 job, .int .i64 i, .int .i64 lv, .int .i64 at_] 160)).alloc (.cells #[.int .i64 o.kind, .int .i64 o.res, .int .i64 o.n, .int .i64 o.v] 39)) := H.fol
  have HA := H2.drew
  have hkn := Lib.hid hn
  clear hn
  have hn := tkNeed (show Hd w0 (TkP t tk S :: ro S :: cel c 112 (coreRow c l) :: cel l 94 (lookRow ⟨l, t, a, u, ce⟩ vj) :: ArP a m.ar :: UnP u m.un :: CeP ce m.ce :: cel w.heap.size 160 #[.int .i64 job, .int .i64 i, .int .i64 lv, .int .i64 at_] :: cel (w.heap.size + 1) 39 #[.int .i64 o.kind, .int .i64 o.res, .int .i64 o.n, .int .i64 o.v] :: R) _ from HA.re) ht hr o.res
  obtain ⟨N, hN⟩ : ∃ N, needOf r.t.needs o.res = N := ⟨_, rfl⟩
  rw [hN] at hE hn
  replace hN := Lib.hid hN
  have hf := H2.facts
  simp only [Nat.reduceAdd] at hf
  go_split_ands
  clear H
  go_enter Tryz.func133, Tryz.ntmps133
  go_wp2_with fail
  refine wp_region_mix 25 [(0, true), (1, true), (2, true), (3, true), (4, true), (5, true), (6, true), (7, true), (8, true), (9, true), (10, true), (11, true), (12, true), (13, true), (14, true), (15, true), (16, true), (17, true), (18, true), (19, true), (20, true), (21, true), (22, true), (23, true), (24, false)] (fun w' => w'.cell? ⟨c, 0, none⟩ = some (.pointer (some ⟨l, 0, none⟩)) ∧ w'.cell? ⟨l, 0, none⟩ = some (.pointer (some ⟨t, 0, none⟩)) ∧ w'.cell? ⟨l, 2, none⟩ = some (.pointer (some ⟨u, 0, none⟩)) ∧ w'.cell? ⟨l, 3, none⟩ = some (.pointer (some ⟨ce, 0, none⟩)) ∧ w'.cell? ⟨w.heap.size, 0, none⟩ = some (.int .i64 job) ∧ w'.cell? ⟨w.heap.size, 1, none⟩ = some (.int .i64 i) ∧ w'.cell? ⟨w.heap.size + 1, 1, none⟩ = some (.int .i64 o.res) ∧ w'.cell? ⟨w.heap.size + 1, 2, none⟩ = some (.int .i64 o.n)) (by kernel_rfl) (by kernel_rfl) (⟨(show _ = some _ from (HA.k (c)).ce 0 rfl), (show _ = some _ from (HA.k (l)).ce 0 rfl), (show _ = some _ from (HA.k (l)).ce 2 rfl), (show _ = some _ from (HA.k (l)).ce 3 rfl), (show _ = some _ from (HA.k (w.heap.size)).ce 0 rfl), (show _ = some _ from (HA.k (w.heap.size)).ce 1 rfl), (show _ = some _ from (HA.k (w.heap.size + 1)).ce 1 rfl), (show _ = some _ from (HA.k (w.heap.size + 1)).ce 2 rfl)⟩) (fun _ _ d _ _ h => by cases d <;> exact h) ?_
  simp only [List.drop_succ_cons, List.drop_zero]
  iterate 24 (refine mix_head (o := _) (v := ?_) (by (simp only [List.getElem?_toArray, List.getElem?_cons_succ, List.getElem?_cons_zero]); rfl) (by rfl) (fun w' hS => ?_) ?_; rotate_left 1; (focus ((try dsimp only at hS); (try go_split_ands); go_simp; (try with_reducible rfl))); (try simp only [Act.put, List.setIfInBounds_toArray, List.set_cons_zero, List.set_cons_succ]))
  refine mix_mid (o := _) (by (simp only [List.getElem?_toArray, List.getElem?_cons_succ, List.getElem?_cons_zero]); rfl) ?_
  go_wp2_with fail
  refine hn.mono ?_
  rintro e w1 ⟨rfl, H3⟩
  clear hn
  go_wp2_with fail
  refine mixQ_in ⟨(show _ = some _ from (H3.k (c)).ce 0 rfl), (show _ = some _ from (H3.k (l)).ce 0 rfl), (show _ = some _ from (H3.k (l)).ce 2 rfl), (show _ = some _ from (H3.k (l)).ce 3 rfl), (show _ = some _ from (H3.k (w.heap.size)).ce 0 rfl), (show _ = some _ from (H3.k (w.heap.size)).ce 1 rfl), (show _ = some _ from (H3.k (w.heap.size + 1)).ce 1 rfl), (show _ = some _ from (H3.k (w.heap.size + 1)).ce 2 rfl)⟩ ?_
  refine mix_end ?_
  (try dsimp only)
  have hc := unLockNo (H3.k u) hu.ok hu.ok2 hkn.out (by rw [hE]; exact h0)
  rw [hE] at hc
  have hg := H3.facts
  simp only [Nat.reduceAdd] at hg
  go_split_ands
  go_wp2_with fail
  refine hc.mono ?_
  rintro e w2 ⟨rfl, H4⟩
  clear hc
  go_wp2_with fail
  go_ret
  exact ⟨rfl, H4.re⟩
set_option maxRecDepth 20000 in
set_option maxHeartbeats 4000000 in
theorem coLock (H : Hd w0 (CoL c x vj tk S m R) w) (ht : tk.Ok) (hu : m.un.Inv) (hl : m.ce.length ≤ 9000) {job lv at_ : Int} {i : Nat} {r : RowM} (hr : tk.rows[i]? = some r) (o : OpM) (hn : -100000 ≤ o.n ∧ o.n ≤ 100000) (hE : m.un.lockE job o.res o.n (needOf r.t.needs o.res) = 0) {f : Int} (hf : (m.un.locked job o.res.toNat o.n).free[o.res.toNat]? = some f) :
    Calls Tryz.prog 133 #[.pointer (some ⟨c, 0, none⟩), actV ⟨job, (i : Int), lv, at_⟩, opV o] w fun e w' => e = .returned (.int .i64 0) ∧ Hd w0 (CoL c x vj tk S { m with un := m.un.locked job o.res.toNat o.n, ce := m.ce ++ [max (ceilAt tk o.res f) (topI m.ce)] } R) w' := by
  obtain ⟨q, hq⟩ : ∃ q : Nat, o.res = q := ⟨o.res.toNat, by have := lockE_pos hE; omega⟩
  have hqn : o.res.toNat = q := by rw [hq]; rfl
  have hql : q < m.un.units.length := by have := lockE_pos hE; omega
  have hul : (m.un.locked job q o.n).units = m.un.units := locked_units _ _ _ _
  rw [hqn] at hf ⊢
  obtain ⟨l, t, a, u, ce⟩ := x
  have H2 : Hd w0 _ ((w.alloc (.cells #[.int .i64 job, .int .i64 i, .int .i64 lv, .int .i64 at_] 160)).alloc (.cells #[.int .i64 o.kind, .int .i64 o.res, .int .i64 o.n, .int .i64 o.v] 39)) := H.fol
  have HA := H2.drew
  have hkn := Lib.hid hn
  clear hn
  have hn := tkNeed (show Hd w0 (TkP t tk S :: ro S :: cel c 112 (coreRow c l) :: cel l 94 (lookRow ⟨l, t, a, u, ce⟩ vj) :: ArP a m.ar :: UnP u m.un :: CeP ce m.ce :: cel w.heap.size 160 #[.int .i64 job, .int .i64 i, .int .i64 lv, .int .i64 at_] :: cel (w.heap.size + 1) 39 #[.int .i64 o.kind, .int .i64 o.res, .int .i64 o.n, .int .i64 o.v] :: R) _ from HA.re) ht hr o.res
  obtain ⟨N, hN⟩ : ∃ N, needOf r.t.needs o.res = N := ⟨_, rfl⟩
  rw [hN] at hE hn
  replace hN := Lib.hid hN
  replace hq := Lib.hid hq
  replace hqn := Lib.hid hqn
  replace hE := Lib.hid hE
  replace hul := Lib.hid hul
  obtain ⟨UL, hUL⟩ : ∃ UL, m.un.locked job q o.n = UL := ⟨_, rfl⟩
  rw [hUL] at hf
  rw [hUL]
  replace hUL := Lib.hid hUL
  obtain ⟨C, hC⟩ : ∃ C, ceilAt tk o.res f = C := ⟨_, rfl⟩
  rw [hC]
  replace hC := Lib.hid hC
  obtain ⟨T, hT⟩ : ∃ T, max C (topI m.ce) = T := ⟨_, rfl⟩
  rw [hT]
  replace hT := Lib.hid hT
  have hf := H2.facts
  simp only [Nat.reduceAdd] at hf
  go_split_ands
  clear H
  go_enter Tryz.func133, Tryz.ntmps133
  go_wp2_with fail
  refine wp_region_mix 25 [(0, true), (1, true), (2, true), (3, true), (4, true), (5, true), (6, true), (7, true), (8, true), (9, true), (10, true), (11, true), (12, true), (13, true), (14, true), (15, true), (16, true), (17, true), (18, true), (19, true), (20, true), (21, true), (22, true), (23, true), (24, false)] (fun w' => w'.cell? ⟨c, 0, none⟩ = some (.pointer (some ⟨l, 0, none⟩)) ∧ w'.cell? ⟨l, 0, none⟩ = some (.pointer (some ⟨t, 0, none⟩)) ∧ w'.cell? ⟨l, 2, none⟩ = some (.pointer (some ⟨u, 0, none⟩)) ∧ w'.cell? ⟨l, 3, none⟩ = some (.pointer (some ⟨ce, 0, none⟩)) ∧ w'.cell? ⟨w.heap.size, 0, none⟩ = some (.int .i64 job) ∧ w'.cell? ⟨w.heap.size, 1, none⟩ = some (.int .i64 i) ∧ w'.cell? ⟨w.heap.size + 1, 1, none⟩ = some (.int .i64 o.res) ∧ w'.cell? ⟨w.heap.size + 1, 2, none⟩ = some (.int .i64 o.n)) (by kernel_rfl) (by kernel_rfl) (⟨(show _ = some _ from (HA.k (c)).ce 0 rfl), (show _ = some _ from (HA.k (l)).ce 0 rfl), (show _ = some _ from (HA.k (l)).ce 2 rfl), (show _ = some _ from (HA.k (l)).ce 3 rfl), (show _ = some _ from (HA.k (w.heap.size)).ce 0 rfl), (show _ = some _ from (HA.k (w.heap.size)).ce 1 rfl), (show _ = some _ from (HA.k (w.heap.size + 1)).ce 1 rfl), (show _ = some _ from (HA.k (w.heap.size + 1)).ce 2 rfl)⟩) (fun _ _ d _ _ h => by cases d <;> exact h) ?_
  simp only [List.drop_succ_cons, List.drop_zero]
  iterate 24 (refine mix_head (o := _) (v := ?_) (by (simp only [List.getElem?_toArray, List.getElem?_cons_succ, List.getElem?_cons_zero]); rfl) (by rfl) (fun w' hS => ?_) ?_; rotate_left 1; (focus ((try dsimp only at hS); (try go_split_ands); go_simp; (try with_reducible rfl))); (try simp only [Act.put, List.setIfInBounds_toArray, List.set_cons_zero, List.set_cons_succ]))
  refine mix_mid (o := _) (by (simp only [List.getElem?_toArray, List.getElem?_cons_succ, List.getElem?_cons_zero]); rfl) ?_
  go_wp2_with fail
  refine hn.mono ?_
  rintro e w1 ⟨rfl, H3⟩
  clear hn
  go_wp2_with fail
  refine mixQ_in ⟨(show _ = some _ from (H3.k (c)).ce 0 rfl), (show _ = some _ from (H3.k (l)).ce 0 rfl), (show _ = some _ from (H3.k (l)).ce 2 rfl), (show _ = some _ from (H3.k (l)).ce 3 rfl), (show _ = some _ from (H3.k (w.heap.size)).ce 0 rfl), (show _ = some _ from (H3.k (w.heap.size)).ce 1 rfl), (show _ = some _ from (H3.k (w.heap.size + 1)).ce 1 rfl), (show _ = some _ from (H3.k (w.heap.size + 1)).ce 2 rfl)⟩ ?_
  refine mix_end ?_
  (try dsimp only)
  have hc := unLock (H3.k u) hu.ok hu.ok2 (job := job) (n := o.n) (need := N) (r := q) hkn.out (by rw [← hq.out]; exact hE.out)
  rw [← hq.out, hUL.out] at hc
  have hg := H3.facts
  simp only [Nat.reduceAdd] at hg
  go_split_ands
  go_wp2_with fail
  refine hc.mono ?_
  rintro e w2 ⟨rfl, H4⟩
  clear hc
  have H5 := H4.drew
  have hfree := unFree (H5.k u) q (by rw [← hUL.out, hul.out]; exact hql) hf
  rw [← hq.out] at hfree
  have hat := ceAt (show Hd w0 (TkP t tk S :: ro S :: cel c 112 (coreRow c l) :: cel l 94 (lookRow ⟨l, t, a, u, ce⟩ vj) :: ArP a m.ar :: UnP u UL :: CeP ce m.ce :: cel w.heap.size 160 #[.int .i64 job, .int .i64 i, .int .i64 lv, .int .i64 at_] :: cel (w.heap.size + 1) 39 #[.int .i64 o.kind, .int .i64 o.res, .int .i64 o.n, .int .i64 o.v] :: R) _ from H5.re) ht o.res f
  rw [hC.out] at hat
  go_wp2_with fail
  refine wp_region_mix 27 [(0, true), (1, true), (2, true), (3, true), (4, true), (5, true), (6, true), (7, true), (8, true), (9, true), (10, true), (11, true), (12, true), (13, true), (14, true), (15, true), (16, true), (17, true), (18, true), (19, true), (20, true), (21, true), (22, true), (23, true), (24, true), (25, false), (26, false)] (fun w' => w'.cell? ⟨c, 0, none⟩ = some (.pointer (some ⟨l, 0, none⟩)) ∧ w'.cell? ⟨l, 0, none⟩ = some (.pointer (some ⟨t, 0, none⟩)) ∧ w'.cell? ⟨l, 2, none⟩ = some (.pointer (some ⟨u, 0, none⟩)) ∧ w'.cell? ⟨l, 3, none⟩ = some (.pointer (some ⟨ce, 0, none⟩)) ∧ w'.cell? ⟨w.heap.size, 0, none⟩ = some (.int .i64 job) ∧ w'.cell? ⟨w.heap.size, 1, none⟩ = some (.int .i64 i) ∧ w'.cell? ⟨w.heap.size + 1, 1, none⟩ = some (.int .i64 o.res) ∧ w'.cell? ⟨w.heap.size + 1, 2, none⟩ = some (.int .i64 o.n)) (by kernel_rfl) (by kernel_rfl) (⟨(show _ = some _ from (H5.k (c)).ce 0 rfl), (show _ = some _ from (H5.k (l)).ce 0 rfl), (show _ = some _ from (H5.k (l)).ce 2 rfl), (show _ = some _ from (H5.k (l)).ce 3 rfl), (show _ = some _ from (H5.k (w.heap.size)).ce 0 rfl), (show _ = some _ from (H5.k (w.heap.size)).ce 1 rfl), (show _ = some _ from (H5.k (w.heap.size + 1)).ce 1 rfl), (show _ = some _ from (H5.k (w.heap.size + 1)).ce 2 rfl)⟩) (fun _ _ d _ _ h => by cases d <;> exact h) ?_
  simp only [List.drop_succ_cons, List.drop_zero]
  iterate 25 (refine mix_head (o := _) (v := ?_) (by (simp only [List.getElem?_toArray, List.getElem?_cons_succ, List.getElem?_cons_zero]); rfl) (by rfl) (fun w' hS => ?_) ?_; rotate_left 1; (focus ((try dsimp only at hS); (try go_split_ands); go_simp; (try with_reducible rfl))); (try simp only [Act.put, List.setIfInBounds_toArray, List.set_cons_zero, List.set_cons_succ]))
  refine mix_mid (o := _) (by (simp only [List.getElem?_toArray, List.getElem?_cons_succ, List.getElem?_cons_zero]); rfl) ?_
  go_wp2_with fail
  refine hfree.mono ?_
  rintro e w3 ⟨rfl, rfl⟩
  clear hfree
  go_wp2_with fail
  refine mixQ_in ⟨(show _ = some _ from (H5.k (c)).ce 0 rfl), (show _ = some _ from (H5.k (l)).ce 0 rfl), (show _ = some _ from (H5.k (l)).ce 2 rfl), (show _ = some _ from (H5.k (l)).ce 3 rfl), (show _ = some _ from (H5.k (w.heap.size)).ce 0 rfl), (show _ = some _ from (H5.k (w.heap.size)).ce 1 rfl), (show _ = some _ from (H5.k (w.heap.size + 1)).ce 1 rfl), (show _ = some _ from (H5.k (w.heap.size + 1)).ce 2 rfl)⟩ ?_
  refine mix_mid (o := _) (by (simp only [List.getElem?_toArray, List.getElem?_cons_succ, List.getElem?_cons_zero]); rfl) ?_
  go_wp2_with fail
  refine hat.mono ?_
  rintro e w3 ⟨rfl, H6⟩
  clear hat
  go_wp2_with fail
  refine mixQ_in ⟨(show _ = some _ from (H6.k (c)).ce 0 rfl), (show _ = some _ from (H6.k (l)).ce 0 rfl), (show _ = some _ from (H6.k (l)).ce 2 rfl), (show _ = some _ from (H6.k (l)).ce 3 rfl), (show _ = some _ from (H6.k (w.heap.size)).ce 0 rfl), (show _ = some _ from (H6.k (w.heap.size)).ce 1 rfl), (show _ = some _ from (H6.k (w.heap.size + 1)).ce 1 rfl), (show _ = some _ from (H6.k (w.heap.size + 1)).ce 2 rfl)⟩ ?_
  refine mix_end ?_
  (try dsimp only)
  have hra := ceRaise (H6.k ce) (by omega) C
  rw [hT.out] at hra
  have hg2 := H6.facts
  simp only [Nat.reduceAdd] at hg2
  go_split_ands
  go_wp2_with fail
  refine hra.mono ?_
  rintro e w4 ⟨rfl, H7⟩
  clear hra
  go_wp2_with fail
  go_ret
  exact ⟨rfl, H7.re⟩
end
end Go.Proofs.YtogcikilphakmaaGreatDoor

/-
  Package core: finish. Every core with a started job.
-/
namespace Go.Proofs.YtogcikilphakmaaGreatDoor
open Go.RowKit Spl

section
variable {w0 w : World} {R : List Pr} {c : Nat} {x : CoV} {vj : Value} {tk : TkM} {S : Hp} {m : CoM}
set_option maxRecDepth 20000 in
set_option maxHeartbeats 4000000 in
theorem coFinish {bs : List Nat} {b : Nat} (H : Hd w0 (CoL c x vj tk S m (SlE 158 vj (bs.map Ptr.mk ++ [⟨b⟩]) :: R)) w) (hm : m.ar.Ok) (hf : m.ar.fr ≠ []) (hu : m.un.Inv) (hl : m.ce.length ≤ 10000) (hbs : bs.length ≤ 1000) (j : ActM) (o : OpM) (hd : m.un.locksN j.job ≤ m.ce.length) :
    Calls Tryz.prog 141 #[.pointer (some ⟨c, 0, none⟩), actV j, opV o] w fun e w' => e = .returned (.int .i64 0) ∧
      ∃ vj', Hd w0 (CoL c x vj' tk S { m with ar := m.ar.close, un := m.un.popN j.job (m.un.locksN j.job), ce := m.ce.take (m.ce.length - m.un.locksN j.job) } (SlE 158 vj' (bs.map Ptr.mk) :: R)) w' := by
  obtain ⟨l, t, a, u, ce⟩ := x
  have H2 : Hd w0 _ ((w.alloc (.cells #[.int .i64 j.job, .int .i64 j.task, .int .i64 j.level, .int .i64 j.at_] 160)).alloc (.cells #[.int .i64 o.kind, .int .i64 o.res, .int .i64 o.n, .int .i64 o.v] 39)) := H.fol
  have HA := H2.drew
  have hdr := unDrop (HA.k u) hu.ok hu.ok2 hu.ok3 (job := j.job)
  obtain ⟨n, hn⟩ : ∃ n, m.un.locksN j.job = n := ⟨_, rfl⟩
  rw [hn] at hdr hd ⊢
  obtain ⟨UL, hUL⟩ : ∃ UL, m.un.popN j.job n = UL := ⟨_, rfl⟩
  rw [hUL] at hdr
  rw [hUL]
  obtain ⟨L, hL⟩ : ∃ L, m.ce.length = L := ⟨_, rfl⟩
  rw [hL] at hl hd
  rw [hL]
  have hcl : m.ar.closeE = 0 := by unfold ArM.closeE; rw [if_neg hf]
  have hf2 := H2.facts
  simp only [Nat.reduceAdd] at hf2
  go_split_ands
  replace hn := Lib.hid hn
  replace hUL := Lib.hid hUL
  replace hL := Lib.hid hL
  replace hcl := Lib.hid hcl
  clear H hu
  go_enter Tryz.func141, Tryz.ntmps141
  go_wp2_with fail
  refine wp_region_mix0 [(0, true), (1, true), (2, true), (3, true), (4, true), (5, true), (6, true), (7, true), (8, true), (10, true), (9, false)] (fun w' => w'.cell? ⟨c, 0, none⟩ = some (.pointer (some ⟨l, 0, none⟩)) ∧ w'.cell? ⟨l, 2, none⟩ = some (.pointer (some ⟨u, 0, none⟩)) ∧ w'.cell? ⟨w.heap.size, 0, none⟩ = some (.int .i64 j.job)) (by kernel_rfl) (by kernel_rfl) (⟨(show _ = some _ from (HA.k c).ce 0 rfl), (show _ = some _ from (HA.k l).ce 2 rfl), (show _ = some _ from (HA.k w.heap.size).ce 0 rfl)⟩) (fun _ _ d _ _ h => by cases d <;> exact h) ?_
  iterate 10 (refine mix_head (o := _) (v := ?_) (by (simp only [List.getElem?_toArray, List.getElem?_cons_succ, List.getElem?_cons_zero]); rfl) (by rfl) (fun w' hS => ?_) ?_; rotate_left 1; (focus ((try dsimp only at hS); (try go_split_ands); go_simp; (try with_reducible rfl))); (try simp only [Act.put, List.setIfInBounds_toArray, List.set_cons_zero, List.set_cons_succ]))
  refine mix_mid (o := _) (by (simp only [List.getElem?_toArray, List.getElem?_cons_succ, List.getElem?_cons_zero]); rfl) ?_
  go_wp2_with fail
  refine hdr.mono ?_
  rintro e w1 ⟨rfl, H3⟩
  clear hdr
  go_wp2_with fail
  refine mixQ_in ⟨(show _ = some _ from (H3.k c).ce 0 rfl), (show _ = some _ from (H3.k l).ce 2 rfl), (show _ = some _ from (H3.k w.heap.size).ce 0 rfl)⟩ ?_
  refine mix_end ?_
  (try dsimp only)
  go_wp2_with fail
  go_loopw [17] (fun y wv => ∃ k : Nat, k ≤ n ∧ y = .int .i64 k ∧ Hd w0 (CeP ce (m.ce.take (L - k)) :: cel c 112 (coreRow c l) :: cel l 94 (lookRow ⟨l, t, a, u, ce⟩ vj) :: TkP t tk S :: ro S :: ArP a m.ar :: UnP u UL :: SlE 158 vj (bs.map Ptr.mk ++ [⟨b⟩]) :: R) wv) (fun y _ => n - (intOf y).toNat)
  case atStart => exact ⟨0, Nat.zero_le _, rfl, by rw [Nat.sub_zero, ← hL.out, List.take_length]; exact H3.re⟩
  case round =>
    clear H2 HA H3
    obtain ⟨k, hk, rfl, H4⟩ := hrel
    have hg := H4.facts
    simp only [Nat.reduceAdd] at hg
    go_split_ands
    by_cases hlt : k < n
    · have n1 : (k : Int) < n := by omega
      have g6 : IntKind.i64.wrap ((k : Int) + 1) = (k : Int) + 1 := IntWalk.i64_in _ (by omega)
      have hlo := ceLower H4 (by rw [List.length_take]; omega) (by intro h; have := congrArg List.length h; simp [hL.out] at this; omega)
      have hdl := Lib.hid (show (m.ce.take (L - k)).dropLast = m.ce.take (L - (k + 1)) by
        rw [List.dropLast_eq_take, List.take_take, List.length_take, hL.out]
        congr 1
        omega)
      rw [hdl.out] at hlo
      go_wp2_with fail
      refine hlo.mono ?_
      rintro e w2 ⟨rfl, H5⟩
      clear hlo
      go_wp2_with fail
      go_roundw
      case rel => exact ⟨k + 1, by omega, by simp, H5.re⟩
      case measure => simp [intOf]; omega
    · obtain rfl : k = n := by omega
      have hpop := stkPop_started (o := 4) ((H4.v vj).k l) rfl (by rw [List.length_map]; omega)
      go_wp2_with fail
      refine hpop.mono ?_
      rintro e w2 ⟨rfl, vj', H5⟩
      clear hpop
      have H6 : Hd w0 (cel l 94 (lookRow ⟨l, t, a, u, ce⟩ vj') :: SlE 158 vj' (bs.map Ptr.mk) :: CeP ce (m.ce.take (L - k)) :: cel c 112 (coreRow c l) :: TkP t tk S :: ro S :: ArP a m.ar :: UnP u UL :: R) w2 := H5
      have hg2 := H6.facts
      simp only [Nat.reduceAdd] at hg2
      go_split_ands
      have hclo := arClose (H6.k a) hm
      rw [hcl.out] at hclo
      go_wp2_with fail
      refine hclo.mono ?_
      rintro e w3 ⟨rfl, H7⟩
      clear hclo
      go_wp2_with fail
      go_ret
      exact ⟨rfl, vj', H7.re⟩
end
end Go.Proofs.YtogcikilphakmaaGreatDoor

/-
  Package core: operations, over, New. Every table.
-/
namespace Go.Proofs.YtogcikilphakmaaGreatDoor
open Go.RowKit Spl

abbrev opsRow (c : Nat) : Array Value := #[.nilFunc, .func (.func 133) #[.pointer (some ⟨c, 0, none⟩)] #[], .func (.func 134) #[.pointer (some ⟨c, 0, none⟩)] #[],
  .func (.func 135) #[.pointer (some ⟨c, 0, none⟩)] #[], .func (.func 136) #[.pointer (some ⟨c, 0, none⟩)] #[], .func (.func 137) #[.pointer (some ⟨c, 0, none⟩)] #[],
  .func (.func 138) #[.pointer (some ⟨c, 0, none⟩)] #[], .func (.func 139) #[.pointer (some ⟨c, 0, none⟩)] #[], .func (.func 140) #[.pointer (some ⟨c, 0, none⟩)] #[],
  .func (.func 141) #[.pointer (some ⟨c, 0, none⟩)] #[], .nilFunc, .nilFunc]
theorem opsRow_one (c : Nat) : (opsRow c).all (·.oneCell') = true := all_oneCell_toArray fun v hv => by
  simp only [List.mem_cons, List.not_mem_nil, or_false] at hv
  rcases hv with rfl | rfl | rfl | rfl | rfl | rfl | rfl | rfl | rfl | rfl | rfl | rfl <;> rfl
section
variable {w0 w : World} {R : List Pr} {c : Nat} {x : CoV} {vj : Value} {tk : TkM} {S : Hp} {m : CoM}
theorem wpList_store_part {P : Program} {ops : Array Oper} {rest : List Oper} {o : Oper} {a : Act} {Q : Exit → Act → World → Prop} {T g off : Nat} {pre old post : List Value} {cells : Array Value} (H : Hd w0 (cel g T (pre ++ (old ++ post)).toArray :: R) w) (hpre : pre.length = off) (hold : old.length = cells.size)
    (hgd : o.guard = none) (ty : TypeId) (y z : Operand) (ho : o.op = .store ty y z) (hy : a.eval y = .pointer (some ⟨g, off, none⟩)) (hz : a.eval z = .agg cells)
    (hi : (P.info? ty).map (·.size) = some cells.size) (h1 : cells.all (·.oneCell') = true)
    (h : ∀ w', Hd w0 (cel g T (pre ++ (cells.toList ++ post)).toArray :: R) w' → wpList P ops Q rest (a.put o.dst undef) w') : wpList P ops Q (o :: rest) a w := by
  refine wpList_store_mid hgd ty y z ho g off cells hy hz ?_ hi h1 (h _ (Hd.setCells H hpre (by rw [hold]; simp)))
  intro j hj
  refine ⟨?_, H.fr _⟩
  rw [H.rd, List.getElem?_toArray, List.getElem?_append_right (by omega), List.getElem?_append_left (by omega), List.getElem?_eq_getElem (by omega)]
  rfl
set_option maxRecDepth 20000 in
set_option maxHeartbeats 4000000 in
theorem coOperations (H : Hd w0 R w) (c : Nat) : Calls Tryz.prog 107 #[.pointer (some ⟨c, 0, none⟩)] w fun e w' => e = .returned (.agg (opsRow c)) ∧ Hd w0 R w' := by
  have H2 : Hd w0 _ (w.alloc (.cells #[.nilFunc, .nilFunc, .nilFunc, .nilFunc, .nilFunc, .nilFunc, .nilFunc, .nilFunc, .nilFunc, .nilFunc, .nilFunc, .nilFunc] 110)) := H.fol
  go_enter Tryz.func107, Tryz.ntmps107
  go_wp2_with (first | ((refine wpList_store_all (cells := opsRow c) (H2.k w.heap.size) rfl 110 _ _ rfl rfl rfl (by kernel_rfl) rfl (opsRow_one _) ?_); intro w4 H9))
  (try simp only [Exit.inBlock, Exit.then])
  refine bodyPost_ret (results_row rfl _ _ w.heap.size 110 (opsRow c) (0, 0) _ (by rfl) (by exact ((Hd.fol H9 : Hd w0 _ _).k w.heap.size).heap) Tryz.underlying110 rfl (by kernel_rfl)) rfl ⟨rfl, ?_⟩
  exact Hd.fin H9
set_option maxRecDepth 20000 in
set_option maxHeartbeats 4000000 in
theorem coOver (H : Hd w0 R w) (l : Nat) : Calls Tryz.prog 76 #[.pointer (some ⟨l, 0, none⟩)] w fun e w' => ∃ c, e = .returned (.pointer (some ⟨c, 0, none⟩)) ∧ Hd w0 (cel c 112 (coreRow c l) :: R) w' := by
  have H2 : Hd w0 _ (w.alloc (.cells #[.pointer (some ⟨l, 0, none⟩), .nilFunc, .nilFunc, .nilFunc, .nilFunc, .nilFunc, .nilFunc, .nilFunc, .nilFunc, .nilFunc, .nilFunc, .nilFunc, .nilFunc] 112)) := H.fol
  have ho := coOperations H2 w.heap.size
  go_enter Tryz.func76, Tryz.ntmps76
  go_wp2_with fail
  refine ho.mono ?_
  rintro e w1 ⟨rfl, H3⟩
  clear ho
  go_wp2_with (first | ((refine wpList_store_part (pre := [.pointer (some ⟨l, 0, none⟩)]) (old := [.nilFunc, .nilFunc, .nilFunc, .nilFunc, .nilFunc, .nilFunc, .nilFunc, .nilFunc, .nilFunc, .nilFunc, .nilFunc, .nilFunc]) (post := []) (cells := opsRow w.heap.size) H3 rfl rfl rfl 110 _ _ rfl rfl rfl (by kernel_rfl) (opsRow_one _) ?_); intro w4 H9))
  go_ret
  exact ⟨_, rfl, H9⟩
end
end Go.Proofs.YtogcikilphakmaaGreatDoor

/-
  Package core: New. Every table.
-/
namespace Go.Proofs.YtogcikilphakmaaGreatDoor
open Go.RowKit Spl

def CoM.new (tk : TkM) : CoM := ⟨ArM.new tk.words.toNat, ⟨tk.units, tk.units, List.replicate tk.units.length 0, []⟩, [], []⟩
section
variable {w0 w : World} {R : List Pr} {tk : TkM} {S : Hp}
set_option maxRecDepth 20000 in
set_option maxHeartbeats 4000000 in
theorem coNew {t : Nat} (H : Hd w0 (TkP t tk S :: ro S :: R) w) (ht : tk.Ok) :
    Calls Tryz.prog 44 #[.pointer (some ⟨t, 0, none⟩)] w fun e w' => ∃ (c : Nat) (x : CoV), x.t = t ∧ e = .returned (.tuple #[.pointer (some ⟨c, 0, none⟩), .int .i64 0]) ∧
      Hd w0 (cel c 112 (coreRow c x.l) :: LkP x S (CoM.new tk) :: TkP t tk S :: ro S :: R) w' := by
  have hw := tkWords H
  obtain ⟨n, hn⟩ : ∃ n : Nat, tk.words = n := ⟨tk.words.toNat, by have := ht.w; omega⟩
  rw [hn] at hw
  have hn2 : n ≤ 65536 := by have := ht.w; omega
  have hnu : newUn tk.units = 0 := by
    unfold newUn
    rw [if_neg (by have := ht.u; omega), if_pos (by simpa using ht.uv)]
  have hnew : CoM.new tk = ⟨ArM.new n, ⟨tk.units, tk.units, List.replicate tk.units.length 0, []⟩, [], []⟩ := by
    unfold CoM.new
    rw [hn, Int.toNat_natCast]
  rw [hnew]
  have ha := arNew H n hn2
  obtain ⟨U, hU⟩ : ∃ U, tk.units = U := ⟨_, rfl⟩
  obtain ⟨N, hN⟩ : ∃ N, U.length = N := ⟨_, rfl⟩
  rw [hU] at hnu ⊢
  replace hU := Lib.hid hU
  replace hN := Lib.hid hN
  clear H hn hnew
  go_enter Tryz.func44, Tryz.ntmps44
  go_wp2_with fail
  refine hw.mono ?_
  rintro e w1 ⟨rfl, rfl⟩
  clear hw
  go_wp2_with fail
  refine ha.mono ?_
  rintro e w1 ⟨a, rfl, H1⟩
  clear ha
  have hu := tkUnits H1.b2 ht
  rw [hU.out, hN.out] at hu
  go_wp2_with fail
  refine hu.mono ?_
  rintro e w2 ⟨g, rfl, H2⟩
  clear hu
  have h3 : Hd w0 (SlEC 3 g N U :: ArP a (ArM.new n) :: TkP t tk S :: ro S :: R) w2 := H2.re
  have H3 : Hd w0 (SlE 3 (.slice (some ⟨g, 0, none⟩) N N) U :: ArP a (ArM.new n) :: TkP t tk S :: ro S :: R) w2 := by
    have h := h3.slc_mk
    rw [hN.out] at h
    unfold SlE
    rw [hN.out]
    exact h
  have hs := Srd.slE H3
  have hnw := unNew H3 hs hnu
  go_wp2_with fail
  refine hnw.mono ?_
  rintro e w3 ⟨u, rfl, H4⟩
  clear hnw hs
  have H5 : Hd w0 _ ((w3.alloc (.cells #[.slice none 0 0] 152)).alloc (.cells #[.pointer (some ⟨t, 0, none⟩), .pointer (some ⟨a, 0, none⟩), .pointer (some ⟨u, 0, none⟩), .pointer (some ⟨w3.heap.size, 0, none⟩), .slice none 0 0] 94)) := H4.fol
  have hov := coOver H5 (w3.heap.size + 1)
  go_wp2_with fail
  refine hov.mono ?_
  rintro e w4 ⟨c, rfl, H6⟩
  clear hov
  go_wp2_with fail
  go_ret2
  refine ⟨c, ⟨w3.heap.size + 1, t, a, u, w3.heap.size⟩, rfl, rfl, ?_⟩
  have H7 : Hd w0 (SlE 3 (.slice none 0 0) ([] : List Int) :: _) w4 := H6.slc_nil 3 1
  have H8 : Hd w0 (cel w3.heap.size 152 #[.slice none 0 0] :: SlE 3 (.slice none 0 0) ([] : List Int) :: cel c 112 (coreRow c (w3.heap.size + 1)) :: cel (w3.heap.size + 1) 94 (lookRow ⟨w3.heap.size + 1, t, a, u, w3.heap.size⟩ (.slice none 0 0)) :: UnP u ⟨U, U, List.replicate U.length 0, []⟩ :: ArP a (ArM.new n) :: TkP t tk S :: ro S :: R) w4 := H7.re
  have H9 := CeP.shut H8
  have H10 : Hd w0 (SlE 158 (.slice none 0 0) ([] : List Ptr) :: _) w4 := H9.slc_nil 158 1
  have H11 : Hd w0 (all [] :: _) w4 := Hd.all_nil H10
  have H12 : Hd w0 (cel (w3.heap.size + 1) 94 (lookRow ⟨w3.heap.size + 1, t, a, u, w3.heap.size⟩ (.slice none 0 0)) :: ArP a (ArM.new n) :: UnP u ⟨U, U, List.replicate U.length 0, []⟩ :: CeP w3.heap.size [] :: SlE 158 (.slice none 0 0) ([] : List Ptr) :: all [] :: cel c 112 (coreRow c (w3.heap.size + 1)) :: TkP t tk S :: ro S :: R) w4 := H11.re
  exact (LkP.shut (x := ⟨w3.heap.size + 1, t, a, u, w3.heap.size⟩) (m := ⟨ArM.new n, ⟨U, U, List.replicate U.length 0, []⟩, [], []⟩) (bs := []) H12 rfl).b2
end
end Go.Proofs.YtogcikilphakmaaGreatDoor
