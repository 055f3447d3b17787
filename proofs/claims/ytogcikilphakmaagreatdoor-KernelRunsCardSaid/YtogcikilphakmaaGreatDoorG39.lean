/-
  Merged texts of one proof: Co3.
-/
import Derived.Test.YtogcikilphakmaaGreatDoorG38

/-
  Package core: lock. Every core.
-/
namespace Go.Proofs.YtogcikilphakmaaGreatDoor
open Go.RowKit Spl

theorem lockE_pos {m : UnM} {job res n need : Int} (h : m.lockE job res n need = 0) : 0 ≤ res ∧ res < m.units.length ∧ 0 ≤ job ∧ 1 ≤ n := by
  unfold UnM.lockE at h
  split at h
  · cases h
  · omega
theorem locked_units (m : UnM) (job : Int) (r : Nat) (n : Int) : (m.locked job r n).units = m.units := by
  unfold UnM.locked
  split <;> rfl
section
variable {w0 w : World} {R : List Pr} {c : Nat} {x : CoV} {vj : Value} {tk : TkM} {S : Hp} {m : CoM}
set_option maxRecDepth 20000 in
set_option maxHeartbeats 4000000 in
theorem coLockNo (H : Hd w0 (CoL c x vj tk S m R) w) (ht : tk.Ok) (hu : m.un.Inv) {job lv at_ : Int} {i : Nat} {r : RowM} (hr : tk.rows[i]? = some r) (o : OpM) (hn : -100000 ≤ o.n ∧ o.n ≤ 100000) {E : Int} (hE : m.un.lockE job o.res o.n (needOf r.t.needs o.res) = E) (h0 : ¬ E = 0) :
    Calls Tryz.prog 133 #[.pointer (some ⟨c, 0, none⟩), actV ⟨job, (i : Int), lv, at_⟩, opV o] w fun e w' => e = .returned (.int .i64 E) ∧ Hd w0 (CoL c x vj tk S m R) w' := by
  obtain ⟨l, t, a, u, ce⟩ := x
  have H2 : Hd w0 _ ((w.alloc (.cells #[.int .i64 job, .int .i64 i, .int .i64 lv, .int .i64 at_] 160)).alloc (.cells #[.int .i64 o.kind, .int .i64 o.res, .int .i64 o.n, .int .i64 o.v] 39)) := H.fol
  have HA := H2.drew
  have hkn := Lib.hid hn
  clear hn
  have hn := tkNeed (show Hd w0 (TkP t tk S :: ro S :: cel c 112 (coreRow c l) :: cel l 94 (lookRow ⟨l, t, a, u, ce⟩ vj) :: ArP a m.ar :: UnP u m.un :: CeP ce m.ce :: cel w.heap.size 160 #[.int .i64 job, .int .i64 i, .int .i64 lv, .int .i64 at_] :: cel (w.heap.size + 1) 39 #[.int .i64 o.kind, .int .i64 o.res, .int .i64 o.n, .int .i64 o.v] :: R) _ from HA.re) ht hr o.res
  obtain ⟨N, hN⟩ : ∃ N, needOf r.t.needs o.res = N := ⟨_, rfl⟩
  rw [hN] at hE hn
  replace hN := Lib.hid hN
  have hf := H2.facts
  simp only [Nat.reduceAdd] at hf
  go_split_ands
  clear H
  go_enter Tryz.func133, Tryz.ntmps133
  go_wp2_with fail
  refine wp_region_mix 25 [(0, true), (1, true), (2, true), (3, true), (4, true), (5, true), (6, true), (7, true), (8, true), (9, true), (10, true), (11, true), (12, true), (13, true), (14, true), (15, true), (16, true), (17, true), (18, true), (19, true), (20, true), (21, true), (22, true), (23, true), (24, false)] (fun w' => w'.cell? ⟨c, 0, none⟩ = some (.pointer (some ⟨l, 0, none⟩)) ∧ w'.cell? ⟨l, 0, none⟩ = some (.pointer (some ⟨t, 0, none⟩)) ∧ w'.cell? ⟨l, 2, none⟩ = some (.pointer (some ⟨u, 0, none⟩)) ∧ w'.cell? ⟨l, 3, none⟩ = some (.pointer (some ⟨ce, 0, none⟩)) ∧ w'.cell? ⟨w.heap.size, 0, none⟩ = some (.int .i64 job) ∧ w'.cell? ⟨w.heap.size, 1, none⟩ = some (.int .i64 i) ∧ w'.cell? ⟨w.heap.size + 1, 1, none⟩ = some (.int .i64 o.res) ∧ w'.cell? ⟨w.heap.size + 1, 2, none⟩ = some (.int .i64 o.n)) (by kernel_rfl) (by kernel_rfl) (⟨(show _ = some _ from (HA.k (c)).ce 0 rfl), (show _ = some _ from (HA.k (l)).ce 0 rfl), (show _ = some _ from (HA.k (l)).ce 2 rfl), (show _ = some _ from (HA.k (l)).ce 3 rfl), (show _ = some _ from (HA.k (w.heap.size)).ce 0 rfl), (show _ = some _ from (HA.k (w.heap.size)).ce 1 rfl), (show _ = some _ from (HA.k (w.heap.size + 1)).ce 1 rfl), (show _ = some _ from (HA.k (w.heap.size + 1)).ce 2 rfl)⟩) (fun _ _ d _ _ h => by cases d <;> exact h) ?_
  simp only [List.drop_succ_cons, List.drop_zero]
  iterate 24 (refine mix_head (o := _) (v := ?_) (by (simp only [List.getElem?_toArray, List.getElem?_cons_succ, List.getElem?_cons_zero]); rfl) (by rfl) (fun w' hS => ?_) ?_; rotate_left 1; (focus ((try dsimp only at hS); (try go_split_ands); go_simp; (try with_reducible rfl))); (try simp only [Act.put, List.setIfInBounds_toArray, List.set_cons_zero, List.set_cons_succ]))
  refine mix_mid (o := _) (by (simp only [List.getElem?_toArray, List.getElem?_cons_succ, List.getElem?_cons_zero]); rfl) ?_
  go_wp2_with fail
  refine hn.mono ?_
  rintro e w1 ⟨rfl, H3⟩
  clear hn
  go_wp2_with fail
  refine mixQ_in ⟨(show _ = some _ from (H3.k (c)).ce 0 rfl), (show _ = some _ from (H3.k (l)).ce 0 rfl), (show _ = some _ from (H3.k (l)).ce 2 rfl), (show _ = some _ from (H3.k (l)).ce 3 rfl), (show _ = some _ from (H3.k (w.heap.size)).ce 0 rfl), (show _ = some _ from (H3.k (w.heap.size)).ce 1 rfl), (show _ = some _ from (H3.k (w.heap.size + 1)).ce 1 rfl), (show _ = some _ from (H3.k (w.heap.size + 1)).ce 2 rfl)⟩ ?_
  refine mix_end ?_
  (try dsimp only)
  have hc := unLockNo (H3.k u) hu.ok hu.ok2 hkn.out (by rw [hE]; exact h0)
  rw [hE] at hc
  have hg := H3.facts
  simp only [Nat.reduceAdd] at hg
  go_split_ands
  go_wp2_with fail
  refine hc.mono ?_
  rintro e w2 ⟨rfl, H4⟩
  clear hc
  go_wp2_with fail
  go_ret
  exact ⟨rfl, H4.re⟩
set_option maxRecDepth 20000 in
set_option maxHeartbeats 4000000 in
theorem coLock (H : Hd w0 (CoL c x vj tk S m R) w) (ht : tk.Ok) (hu : m.un.Inv) (hl : m.ce.length ≤ 9000) {job lv at_ : Int} {i : Nat} {r : RowM} (hr : tk.rows[i]? = some r) (o : OpM) (hn : -100000 ≤ o.n ∧ o.n ≤ 100000) (hE : m.un.lockE job o.res o.n (needOf r.t.needs o.res) = 0) {f : Int} (hf : (m.un.locked job o.res.toNat o.n).free[o.res.toNat]? = some f) :
    Calls Tryz.prog 133 #[.pointer (some ⟨c, 0, none⟩), actV ⟨job, (i : Int), lv, at_⟩, opV o] w fun e w' => e = .returned (.int .i64 0) ∧ Hd w0 (CoL c x vj tk S { m with un := m.un.locked job o.res.toNat o.n, ce := m.ce ++ [max (ceilAt tk o.res f) (topI m.ce)] } R) w' := by
  obtain ⟨q, hq⟩ : ∃ q : Nat, o.res = q := ⟨o.res.toNat, by have := lockE_pos hE; omega⟩
  have hqn : o.res.toNat = q := by rw [hq]; rfl
  have hql : q < m.un.units.length := by have := lockE_pos hE; omega
  have hul : (m.un.locked job q o.n).units = m.un.units := locked_units _ _ _ _
  rw [hqn] at hf ⊢
  obtain ⟨l, t, a, u, ce⟩ := x
  have H2 : Hd w0 _ ((w.alloc (.cells #[.int .i64 job, .int .i64 i, .int .i64 lv, .int .i64 at_] 160)).alloc (.cells #[.int .i64 o.kind, .int .i64 o.res, .int .i64 o.n, .int .i64 o.v] 39)) := H.fol
  have HA := H2.drew
  have hkn := Lib.hid hn
  clear hn
  have hn := tkNeed (show Hd w0 (TkP t tk S :: ro S :: cel c 112 (coreRow c l) :: cel l 94 (lookRow ⟨l, t, a, u, ce⟩ vj) :: ArP a m.ar :: UnP u m.un :: CeP ce m.ce :: cel w.heap.size 160 #[.int .i64 job, .int .i64 i, .int .i64 lv, .int .i64 at_] :: cel (w.heap.size + 1) 39 #[.int .i64 o.kind, .int .i64 o.res, .int .i64 o.n, .int .i64 o.v] :: R) _ from HA.re) ht hr o.res
  obtain ⟨N, hN⟩ : ∃ N, needOf r.t.needs o.res = N := ⟨_, rfl⟩
  rw [hN] at hE hn
  replace hN := Lib.hid hN
  replace hq := Lib.hid hq
  replace hqn := Lib.hid hqn
  replace hE := Lib.hid hE
  replace hul := Lib.hid hul
  obtain ⟨UL, hUL⟩ : ∃ UL, m.un.locked job q o.n = UL := ⟨_, rfl⟩
  rw [hUL] at hf
  rw [hUL]
  replace hUL := Lib.hid hUL
  obtain ⟨C, hC⟩ : ∃ C, ceilAt tk o.res f = C := ⟨_, rfl⟩
  rw [hC]
  replace hC := Lib.hid hC
  obtain ⟨T, hT⟩ : ∃ T, max C (topI m.ce) = T := ⟨_, rfl⟩
  rw [hT]
  replace hT := Lib.hid hT
  have hf := H2.facts
  simp only [Nat.reduceAdd] at hf
  go_split_ands
  clear H
  go_enter Tryz.func133, Tryz.ntmps133
  go_wp2_with fail
  refine wp_region_mix 25 [(0, true), (1, true), (2, true), (3, true), (4, true), (5, true), (6, true), (7, true), (8, true), (9, true), (10, true), (11, true), (12, true), (13, true), (14, true), (15, true), (16, true), (17, true), (18, true), (19, true), (20, true), (21, true), (22, true), (23, true), (24, false)] (fun w' => w'.cell? ⟨c, 0, none⟩ = some (.pointer (some ⟨l, 0, none⟩)) ∧ w'.cell? ⟨l, 0, none⟩ = some (.pointer (some ⟨t, 0, none⟩)) ∧ w'.cell? ⟨l, 2, none⟩ = some (.pointer (some ⟨u, 0, none⟩)) ∧ w'.cell? ⟨l, 3, none⟩ = some (.pointer (some ⟨ce, 0, none⟩)) ∧ w'.cell? ⟨w.heap.size, 0, none⟩ = some (.int .i64 job) ∧ w'.cell? ⟨w.heap.size, 1, none⟩ = some (.int .i64 i) ∧ w'.cell? ⟨w.heap.size + 1, 1, none⟩ = some (.int .i64 o.res) ∧ w'.cell? ⟨w.heap.size + 1, 2, none⟩ = some (.int .i64 o.n)) (by kernel_rfl) (by kernel_rfl) (⟨(show _ = some _ from (HA.k (c)).ce 0 rfl), (show _ = some _ from (HA.k (l)).ce 0 rfl), (show _ = some _ from (HA.k (l)).ce 2 rfl), (show _ = some _ from (HA.k (l)).ce 3 rfl), (show _ = some _ from (HA.k (w.heap.size)).ce 0 rfl), (show _ = some _ from (HA.k (w.heap.size)).ce 1 rfl), (show _ = some _ from (HA.k (w.heap.size + 1)).ce 1 rfl), (show _ = some _ from (HA.k (w.heap.size + 1)).ce 2 rfl)⟩) (fun _ _ d _ _ h => by cases d <;> exact h) ?_
  simp only [List.drop_succ_cons, List.drop_zero]
  iterate 24 (refine mix_head (o := _) (v := ?_) (by (simp only [List.getElem?_toArray, List.getElem?_cons_succ, List.getElem?_cons_zero]); rfl) (by rfl) (fun w' hS => ?_) ?_; rotate_left 1; (focus ((try dsimp only at hS); (try go_split_ands); go_simp; (try with_reducible rfl))); (try simp only [Act.put, List.setIfInBounds_toArray, List.set_cons_zero, List.set_cons_succ]))
  refine mix_mid (o := _) (by (simp only [List.getElem?_toArray, List.getElem?_cons_succ, List.getElem?_cons_zero]); rfl) ?_
  go_wp2_with fail
  refine hn.mono ?_
  rintro e w1 ⟨rfl, H3⟩
  clear hn
  go_wp2_with fail
  refine mixQ_in ⟨(show _ = some _ from (H3.k (c)).ce 0 rfl), (show _ = some _ from (H3.k (l)).ce 0 rfl), (show _ = some _ from (H3.k (l)).ce 2 rfl), (show _ = some _ from (H3.k (l)).ce 3 rfl), (show _ = some _ from (H3.k (w.heap.size)).ce 0 rfl), (show _ = some _ from (H3.k (w.heap.size)).ce 1 rfl), (show _ = some _ from (H3.k (w.heap.size + 1)).ce 1 rfl), (show _ = some _ from (H3.k (w.heap.size + 1)).ce 2 rfl)⟩ ?_
  refine mix_end ?_
  (try dsimp only)
  have hc := unLock (H3.k u) hu.ok hu.ok2 (job := job) (n := o.n) (need := N) (r := q) hkn.out (by rw [← hq.out]; exact hE.out)
  rw [← hq.out, hUL.out] at hc
  have hg := H3.facts
  simp only [Nat.reduceAdd] at hg
  go_split_ands
  go_wp2_with fail
  refine hc.mono ?_
  rintro e w2 ⟨rfl, H4⟩
  clear hc
  have H5 := H4.drew
  have hfree := unFree (H5.k u) q (by rw [← hUL.out, hul.out]; exact hql) hf
  rw [← hq.out] at hfree
  have hat := ceAt (show Hd w0 (TkP t tk S :: ro S :: cel c 112 (coreRow c l) :: cel l 94 (lookRow ⟨l, t, a, u, ce⟩ vj) :: ArP a m.ar :: UnP u UL :: CeP ce m.ce :: cel w.heap.size 160 #[.int .i64 job, .int .i64 i, .int .i64 lv, .int .i64 at_] :: cel (w.heap.size + 1) 39 #[.int .i64 o.kind, .int .i64 o.res, .int .i64 o.n, .int .i64 o.v] :: R) _ from H5.re) ht o.res f
  rw [hC.out] at hat
  go_wp2_with fail
  refine wp_region_mix 27 [(0, true), (1, true), (2, true), (3, true), (4, true), (5, true), (6, true), (7, true), (8, true), (9, true), (10, true), (11, true), (12, true), (13, true), (14, true), (15, true), (16, true), (17, true), (18, true), (19, true), (20, true), (21, true), (22, true), (23, true), (24, true), (25, false), (26, false)] (fun w' => w'.cell? ⟨c, 0, none⟩ = some (.pointer (some ⟨l, 0, none⟩)) ∧ w'.cell? ⟨l, 0, none⟩ = some (.pointer (some ⟨t, 0, none⟩)) ∧ w'.cell? ⟨l, 2, none⟩ = some (.pointer (some ⟨u, 0, none⟩)) ∧ w'.cell? ⟨l, 3, none⟩ = some (.pointer (some ⟨ce, 0, none⟩)) ∧ w'.cell? ⟨w.heap.size, 0, none⟩ = some (.int .i64 job) ∧ w'.cell? ⟨w.heap.size, 1, none⟩ = some (.int .i64 i) ∧ w'.cell? ⟨w.heap.size + 1, 1, none⟩ = some (.int .i64 o.res) ∧ w'.cell? ⟨w.heap.size + 1, 2, none⟩ = some (.int .i64 o.n)) (by kernel_rfl) (by kernel_rfl) (⟨(show _ = some _ from (H5.k (c)).ce 0 rfl), (show _ = some _ from (H5.k (l)).ce 0 rfl), (show _ = some _ from (H5.k (l)).ce 2 rfl), (show _ = some _ from (H5.k (l)).ce 3 rfl), (show _ = some _ from (H5.k (w.heap.size)).ce 0 rfl), (show _ = some _ from (H5.k (w.heap.size)).ce 1 rfl), (show _ = some _ from (H5.k (w.heap.size + 1)).ce 1 rfl), (show _ = some _ from (H5.k (w.heap.size + 1)).ce 2 rfl)⟩) (fun _ _ d _ _ h => by cases d <;> exact h) ?_
  simp only [List.drop_succ_cons, List.drop_zero]
  iterate 25 (refine mix_head (o := _) (v := ?_) (by (simp only [List.getElem?_toArray, List.getElem?_cons_succ, List.getElem?_cons_zero]); rfl) (by rfl) (fun w' hS => ?_) ?_; rotate_left 1; (focus ((try dsimp only at hS); (try go_split_ands); go_simp; (try with_reducible rfl))); (try simp only [Act.put, List.setIfInBounds_toArray, List.set_cons_zero, List.set_cons_succ]))
  refine mix_mid (o := _) (by (simp only [List.getElem?_toArray, List.getElem?_cons_succ, List.getElem?_cons_zero]); rfl) ?_
  go_wp2_with fail
  refine hfree.mono ?_
  rintro e w3 ⟨rfl, rfl⟩
  clear hfree
  go_wp2_with fail
  refine mixQ_in ⟨(show _ = some _ from (H5.k (c)).ce 0 rfl), (show _ = some _ from (H5.k (l)).ce 0 rfl), (show _ = some _ from (H5.k (l)).ce 2 rfl), (show _ = some _ from (H5.k (l)).ce 3 rfl), (show _ = some _ from (H5.k (w.heap.size)).ce 0 rfl), (show _ = some _ from (H5.k (w.heap.size)).ce 1 rfl), (show _ = some _ from (H5.k (w.heap.size + 1)).ce 1 rfl), (show _ = some _ from (H5.k (w.heap.size + 1)).ce 2 rfl)⟩ ?_
  refine mix_mid (o := _) (by (simp only [List.getElem?_toArray, List.getElem?_cons_succ, List.getElem?_cons_zero]); rfl) ?_
  go_wp2_with fail
  refine hat.mono ?_
  rintro e w3 ⟨rfl, H6⟩
  clear hat
  go_wp2_with fail
  refine mixQ_in ⟨(show _ = some _ from (H6.k (c)).ce 0 rfl), (show _ = some _ from (H6.k (l)).ce 0 rfl), (show _ = some _ from (H6.k (l)).ce 2 rfl), (show _ = some _ from (H6.k (l)).ce 3 rfl), (show _ = some _ from (H6.k (w.heap.size)).ce 0 rfl), (show _ = some _ from (H6.k (w.heap.size)).ce 1 rfl), (show _ = some _ from (H6.k (w.heap.size + 1)).ce 1 rfl), (show _ = some _ from (H6.k (w.heap.size + 1)).ce 2 rfl)⟩ ?_
  refine mix_end ?_
  (try dsimp only)
  have hra := ceRaise (H6.k ce) (by omega) C
  rw [hT.out] at hra
  have hg2 := H6.facts
  simp only [Nat.reduceAdd] at hg2
  go_split_ands
  go_wp2_with fail
  refine hra.mono ?_
  rintro e w4 ⟨rfl, H7⟩
  clear hra
  go_wp2_with fail
  go_ret
  exact ⟨rfl, H7.re⟩
end
end Go.Proofs.YtogcikilphakmaaGreatDoor
