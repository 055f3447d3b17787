/-
  Merged texts of one proof: Dp1, Dp2, Dp3.
-/
import Derived.Test.YtogcikilphakmaaGreatDoorG39

/-
  Package dispatch: May. Every dispatch.
-/
namespace Go.Proofs.YtogcikilphakmaaGreatDoor
open Go.RowKit Spl

abbrev waitV (v : WaitM) : Value := .agg #[.int .i64 v.job, .int .i64 v.task, .int .i64 v.level]
instance {l t a u c : Nat} {S : Hp} {m : CoM} : Key (LkP ⟨l, t, a, u, c⟩ S m) (.b l) := ⟨trivial⟩
section
variable {w0 w : World} {R : List Pr} {tk : TkM} {S : Hp} {y : DpV} {m : DpM}
set_option maxRecDepth 20000 in
set_option maxHeartbeats 4000000 in
theorem dpMayA (H : Hd w0 (DpL y tk S m R) w) (hq : m.wq.Ok) (hx : m.wq.next = none) :
    Calls Tryz.prog 60 #[.pointer (some ⟨y.d, 0, none⟩)] w fun e w' => e = .returned (.tuple #[waitV .zero, .bool false]) ∧ Hd w0 (DpL y tk S m R) w' := by
  obtain ⟨⟨l, t, a, u, ce⟩, hx⟩ : ∃ x, y.x = x := ⟨_, rfl⟩
  obtain ⟨d, c, q, x⟩ := y
  dsimp only at hx
  subst hx
  have H0 : Hd w0 _ (w.alloc (.cells #[.int .i64 0, .int .i64 0, .int .i64 0] 37)) := H.fol
  have k0 := (show _ = some (Value.pointer (some ⟨q, 0, none⟩)) from (H0.k d).ce 3 rfl)
  have hnx := wqNextNo (H0.k q) hq hx
  clear H
  go_enter Tryz.func60, Tryz.ntmps60
  go_wp2_with fail
  refine hnx.mono ?_
  rintro e w1 ⟨rfl, H1⟩
  clear hnx k0 H0
  have H2a : Hd w0 _ (w1.alloc (.cells #[.int .i64 0, .int .i64 0, .int .i64 0] 37)) := H1.fol
  have hf := H2a.facts
  simp only [Nat.reduceAdd] at hf
  go_split_ands
  have H2 := H2a.drew

  have k1 := (show _ = some (Value.pointer (some ⟨l, 0, none⟩)) from (H2.k d).ce 0 rfl)
  have k2 := (show _ = some (Value.int .i64 0) from (H2.k w1.heap.size).ce 2 rfl)
  go_wp2_with fail
  refine wp_region_mix 10 [(0, true), (1, true), (2, true), (3, true), (4, true), (5, true), (6, true), (7, true), (8, true), (9, false)] (fun w' => w'.cell? ⟨d, 0, none⟩ = some (.pointer (some ⟨l, 0, none⟩)) ∧ w'.cell? ⟨w1.heap.size, 2, none⟩ = some (.int .i64 0)) (by kernel_rfl) (by kernel_rfl) (⟨k1, k2⟩) (fun _ _ d _ _ h => by cases d <;> exact h) ?_
  simp only [List.drop_succ_cons, List.drop_zero]
  iterate 3 (refine mix_head (o := _) (v := ?_) (by (simp only [List.getElem?_toArray, List.getElem?_cons_succ, List.getElem?_cons_zero]); rfl) (by rfl) (fun w' hS => ?_) ?_; rotate_left 1; (focus ((try dsimp only at hS); (try go_split_ands); go_simp; (try with_reducible rfl))); (try simp only [Act.put, List.setIfInBounds_toArray, List.set_cons_zero, List.set_cons_succ]))
  iterate 6 (refine mix_skip (o := _) (by (simp only [List.getElem?_toArray, List.getElem?_cons_succ, List.getElem?_cons_zero]); rfl) (by rfl) ?_; (try simp only [Act.put, List.setIfInBounds_toArray, List.set_cons_zero, List.set_cons_succ]))
  refine mix_mid (o := _) (by (simp only [List.getElem?_toArray, List.getElem?_cons_succ, List.getElem?_cons_zero]); rfl) ?_
  go_wp2_with fail
  refine mixQ_in ⟨k1, k2⟩ ?_
  refine mix_end ?_
  (try dsimp only)
  go_wp2_with fail
  have HX : Hd w0 _ _ := H2a
  refine bodyPost_ret (results_row_tmp rfl _ _ w.heap.size 37 #[.int .i64 0, .int .i64 0, .int .i64 0] (0, 0) _ (by rfl) (by exact ((Hd.fol HX : Hd w0 _ _).k w.heap.size).heap) Tryz.underlying37 rfl (by kernel_rfl)) rfl ⟨rfl, ?_⟩
  exact Hd.fin HX
set_option maxRecDepth 20000 in
set_option maxHeartbeats 4000000 in
theorem dpMayB (H : Hd w0 (DpL y tk S m R) w) (hq : m.wq.Ok) (hc : m.co.ce.length ≤ 5000) {v : WaitM} (hx : m.wq.next = some v) (h1 : v.level ≤ topI m.co.ce) :
    Calls Tryz.prog 60 #[.pointer (some ⟨y.d, 0, none⟩)] w fun e w' => e = .returned (.tuple #[waitV .zero, .bool false]) ∧ Hd w0 (DpL y tk S m R) w' := by
  obtain ⟨⟨l, t, a, u, ce⟩, hx⟩ : ∃ x, y.x = x := ⟨_, rfl⟩
  obtain ⟨d, c, q, x⟩ := y
  dsimp only at hx
  subst hx
  have H0 : Hd w0 _ (w.alloc (.cells #[.int .i64 0, .int .i64 0, .int .i64 0] 37)) := H.fol
  have k0 := (show _ = some (Value.pointer (some ⟨q, 0, none⟩)) from (H0.k d).ce 3 rfl)
  have hnx := wqNext (H0.k q) hq hx
  clear H
  go_enter Tryz.func60, Tryz.ntmps60
  go_wp2_with fail
  refine hnx.mono ?_
  rintro e w1 ⟨rfl, H1⟩
  clear hnx k0 H0
  have H2a : Hd w0 _ (w1.alloc (.cells #[.int .i64 v.job, .int .i64 v.task, .int .i64 v.level] 37)) := H1.fol
  have hf := H2a.facts
  simp only [Nat.reduceAdd] at hf
  go_split_ands
  have H2 := H2a.drew

  have k1 := (show _ = some (Value.pointer (some ⟨l, 0, none⟩)) from (H2.k d).ce 0 rfl)
  have k2 := (show _ = some (Value.int .i64 v.level) from (H2.k w1.heap.size).ce 2 rfl)
  have hcl := lkCeiling (H2.k l) (by omega)
  obtain ⟨T, hT⟩ : ∃ T, topI m.co.ce = T := ⟨_, rfl⟩
  rw [hT] at hcl h1
  replace hT := Lib.hid hT
  go_wp2_with fail
  refine wp_region_mix 10 [(0, true), (1, true), (2, true), (3, true), (4, true), (5, true), (6, true), (7, true), (8, true), (9, false)] (fun w' => w'.cell? ⟨d, 0, none⟩ = some (.pointer (some ⟨l, 0, none⟩)) ∧ w'.cell? ⟨w1.heap.size, 2, none⟩ = some (.int .i64 v.level)) (by kernel_rfl) (by kernel_rfl) (⟨k1, k2⟩) (fun _ _ d _ _ h => by cases d <;> exact h) ?_
  simp only [List.drop_succ_cons, List.drop_zero]
  iterate 9 (refine mix_head (o := _) (v := ?_) (by (simp only [List.getElem?_toArray, List.getElem?_cons_succ, List.getElem?_cons_zero]); rfl) (by rfl) (fun w' hS => ?_) ?_; rotate_left 1; (focus ((try dsimp only at hS); (try go_split_ands); go_simp; (try with_reducible rfl))); (try simp only [Act.put, List.setIfInBounds_toArray, List.set_cons_zero, List.set_cons_succ]))
  refine mix_mid (o := _) (by (simp only [List.getElem?_toArray, List.getElem?_cons_succ, List.getElem?_cons_zero]); rfl) ?_
  go_wp2_with fail
  refine hcl.mono ?_
  rintro e w2 ⟨rfl, rfl⟩
  clear hcl
  go_wp2_with fail
  refine mixQ_in ⟨k1, k2⟩ ?_
  refine mix_end ?_
  (try dsimp only)
  go_wp2_with fail
  have HX : Hd w0 _ _ := H2a
  refine bodyPost_ret (results_row_tmp rfl _ _ w.heap.size 37 #[.int .i64 0, .int .i64 0, .int .i64 0] (0, 0) _ (by rfl) (by exact ((Hd.fol HX : Hd w0 _ _).k w.heap.size).heap) Tryz.underlying37 rfl (by kernel_rfl)) rfl ⟨rfl, ?_⟩
  exact Hd.fin HX
set_option maxRecDepth 20000 in
set_option maxHeartbeats 4000000 in
theorem dpMayC (H : Hd w0 (DpL y tk S m R) w) (hq : m.wq.Ok) (hc : m.co.ce.length ≤ 5000) {v : WaitM} (hx : m.wq.next = some v) (h1 : ¬ v.level ≤ topI m.co.ce) (hj : m.co.jobs = []) :
    Calls Tryz.prog 60 #[.pointer (some ⟨y.d, 0, none⟩)] w fun e w' => e = .returned (.tuple #[waitV v, .bool true]) ∧ Hd w0 (DpL y tk S m R) w' := by
  obtain ⟨⟨l, t, a, u, ce⟩, hx⟩ : ∃ x, y.x = x := ⟨_, rfl⟩
  obtain ⟨d, c, q, x⟩ := y
  dsimp only at hx
  subst hx
  have H0 : Hd w0 _ (w.alloc (.cells #[.int .i64 0, .int .i64 0, .int .i64 0] 37)) := H.fol
  have k0 := (show _ = some (Value.pointer (some ⟨q, 0, none⟩)) from (H0.k d).ce 3 rfl)
  have hnx := wqNext (H0.k q) hq hx
  clear H
  go_enter Tryz.func60, Tryz.ntmps60
  go_wp2_with fail
  refine hnx.mono ?_
  rintro e w1 ⟨rfl, H1⟩
  clear hnx k0 H0
  have H2a : Hd w0 _ (w1.alloc (.cells #[.int .i64 v.job, .int .i64 v.task, .int .i64 v.level] 37)) := H1.fol
  have hf := H2a.facts
  simp only [Nat.reduceAdd] at hf
  go_split_ands
  have H2 := H2a.drew

  have k1 := (show _ = some (Value.pointer (some ⟨l, 0, none⟩)) from (H2.k d).ce 0 rfl)
  have k2 := (show _ = some (Value.int .i64 v.level) from (H2.k w1.heap.size).ce 2 rfl)
  have hcl := lkCeiling (H2.k l) (by omega)
  obtain ⟨T, hT⟩ : ∃ T, topI m.co.ce = T := ⟨_, rfl⟩
  rw [hT] at hcl h1
  replace hT := Lib.hid hT
  go_wp2_with fail
  refine wp_region_mix 10 [(0, true), (1, true), (2, true), (3, true), (4, true), (5, true), (6, true), (7, true), (8, true), (9, false)] (fun w' => w'.cell? ⟨d, 0, none⟩ = some (.pointer (some ⟨l, 0, none⟩)) ∧ w'.cell? ⟨w1.heap.size, 2, none⟩ = some (.int .i64 v.level)) (by kernel_rfl) (by kernel_rfl) (⟨k1, k2⟩) (fun _ _ d _ _ h => by cases d <;> exact h) ?_
  simp only [List.drop_succ_cons, List.drop_zero]
  iterate 9 (refine mix_head (o := _) (v := ?_) (by (simp only [List.getElem?_toArray, List.getElem?_cons_succ, List.getElem?_cons_zero]); rfl) (by rfl) (fun w' hS => ?_) ?_; rotate_left 1; (focus ((try dsimp only at hS); (try go_split_ands); go_simp; (try with_reducible rfl))); (try simp only [Act.put, List.setIfInBounds_toArray, List.set_cons_zero, List.set_cons_succ]))
  refine mix_mid (o := _) (by (simp only [List.getElem?_toArray, List.getElem?_cons_succ, List.getElem?_cons_zero]); rfl) ?_
  go_wp2_with fail
  refine hcl.mono ?_
  rintro e w2 ⟨rfl, rfl⟩
  clear hcl
  go_wp2_with fail
  refine mixQ_in ⟨k1, k2⟩ ?_
  refine mix_end ?_
  (try dsimp only)
  have hr := lkRunningNo (H2.k l) hj
  go_wp2_with fail
  refine hr.mono ?_
  rintro e w2 ⟨rfl, H3⟩
  clear hr
  have H4 : Hd w0 _ (w2.alloc (.cells #[.int .i64 0, .int .i64 0, .int .i64 0, .int .i64 0] 160)) := H3.fol
  have hf4 := H4.facts
  simp only [Nat.reduceAdd] at hf4
  go_split_ands
  go_wp2_with fail
  have HX : Hd w0 _ _ := H4
  refine bodyPost_ret (results_row_tmp rfl _ _ w.heap.size 37 #[.int .i64 v.job, .int .i64 v.task, .int .i64 v.level] (0, 0) _ (by rfl) (by exact ((Hd.fol HX : Hd w0 _ _).k w.heap.size).heap) Tryz.underlying37 rfl (by kernel_rfl)) rfl ⟨rfl, ?_⟩
  exact Hd.fin HX
set_option maxRecDepth 20000 in
set_option maxHeartbeats 4000000 in
theorem dpMayD (H : Hd w0 (DpL y tk S m R) w) (hq : m.wq.Ok) (hc : m.co.ce.length ≤ 5000) {v : WaitM} (hx : m.wq.next = some v) (h1 : ¬ v.level ≤ topI m.co.ce) {js : List StM} {j : StM} (hj : m.co.jobs = js ++ [j]) (hn : js.length ≤ 1000) (h2 : v.level ≤ j.act.level) :
    Calls Tryz.prog 60 #[.pointer (some ⟨y.d, 0, none⟩)] w fun e w' => e = .returned (.tuple #[waitV .zero, .bool false]) ∧ Hd w0 (DpL y tk S m R) w' := by
  obtain ⟨⟨l, t, a, u, ce⟩, hx⟩ : ∃ x, y.x = x := ⟨_, rfl⟩
  obtain ⟨d, c, q, x⟩ := y
  dsimp only at hx
  subst hx
  have H0 : Hd w0 _ (w.alloc (.cells #[.int .i64 0, .int .i64 0, .int .i64 0] 37)) := H.fol
  have k0 := (show _ = some (Value.pointer (some ⟨q, 0, none⟩)) from (H0.k d).ce 3 rfl)
  have hnx := wqNext (H0.k q) hq hx
  clear H
  go_enter Tryz.func60, Tryz.ntmps60
  go_wp2_with fail
  refine hnx.mono ?_
  rintro e w1 ⟨rfl, H1⟩
  clear hnx k0 H0
  have H2a : Hd w0 _ (w1.alloc (.cells #[.int .i64 v.job, .int .i64 v.task, .int .i64 v.level] 37)) := H1.fol
  have hf := H2a.facts
  simp only [Nat.reduceAdd] at hf
  go_split_ands
  have H2 := H2a.drew

  have k1 := (show _ = some (Value.pointer (some ⟨l, 0, none⟩)) from (H2.k d).ce 0 rfl)
  have k2 := (show _ = some (Value.int .i64 v.level) from (H2.k w1.heap.size).ce 2 rfl)
  have hcl := lkCeiling (H2.k l) (by omega)
  obtain ⟨T, hT⟩ : ∃ T, topI m.co.ce = T := ⟨_, rfl⟩
  rw [hT] at hcl h1
  replace hT := Lib.hid hT
  go_wp2_with fail
  refine wp_region_mix 10 [(0, true), (1, true), (2, true), (3, true), (4, true), (5, true), (6, true), (7, true), (8, true), (9, false)] (fun w' => w'.cell? ⟨d, 0, none⟩ = some (.pointer (some ⟨l, 0, none⟩)) ∧ w'.cell? ⟨w1.heap.size, 2, none⟩ = some (.int .i64 v.level)) (by kernel_rfl) (by kernel_rfl) (⟨k1, k2⟩) (fun _ _ d _ _ h => by cases d <;> exact h) ?_
  simp only [List.drop_succ_cons, List.drop_zero]
  iterate 9 (refine mix_head (o := _) (v := ?_) (by (simp only [List.getElem?_toArray, List.getElem?_cons_succ, List.getElem?_cons_zero]); rfl) (by rfl) (fun w' hS => ?_) ?_; rotate_left 1; (focus ((try dsimp only at hS); (try go_split_ands); go_simp; (try with_reducible rfl))); (try simp only [Act.put, List.setIfInBounds_toArray, List.set_cons_zero, List.set_cons_succ]))
  refine mix_mid (o := _) (by (simp only [List.getElem?_toArray, List.getElem?_cons_succ, List.getElem?_cons_zero]); rfl) ?_
  go_wp2_with fail
  refine hcl.mono ?_
  rintro e w2 ⟨rfl, rfl⟩
  clear hcl
  go_wp2_with fail
  refine mixQ_in ⟨k1, k2⟩ ?_
  refine mix_end ?_
  (try dsimp only)
  have hr := lkRunning (H2.k l) hj hn
  go_wp2_with fail
  refine hr.mono ?_
  rintro e w2 ⟨rfl, H3⟩
  clear hr
  have H4 : Hd w0 _ (w2.alloc (.cells #[.int .i64 j.act.job, .int .i64 j.act.task, .int .i64 j.act.level, .int .i64 j.act.at_] 160)) := H3.fol
  have hf4 := H4.facts
  simp only [Nat.reduceAdd] at hf4
  go_split_ands
  go_wp2_with fail
  have HX : Hd w0 _ _ := H4
  refine bodyPost_ret (results_row_tmp rfl _ _ w.heap.size 37 #[.int .i64 0, .int .i64 0, .int .i64 0] (0, 0) _ (by rfl) (by exact ((Hd.fol HX : Hd w0 _ _).k w.heap.size).heap) Tryz.underlying37 rfl (by kernel_rfl)) rfl ⟨rfl, ?_⟩
  exact Hd.fin HX
set_option maxRecDepth 20000 in
set_option maxHeartbeats 4000000 in
theorem dpMayE (H : Hd w0 (DpL y tk S m R) w) (hq : m.wq.Ok) (hc : m.co.ce.length ≤ 5000) {v : WaitM} (hx : m.wq.next = some v) (h1 : ¬ v.level ≤ topI m.co.ce) {js : List StM} {j : StM} (hj : m.co.jobs = js ++ [j]) (hn : js.length ≤ 1000) (h2 : ¬ v.level ≤ j.act.level) :
    Calls Tryz.prog 60 #[.pointer (some ⟨y.d, 0, none⟩)] w fun e w' => e = .returned (.tuple #[waitV v, .bool true]) ∧ Hd w0 (DpL y tk S m R) w' := by
  obtain ⟨⟨l, t, a, u, ce⟩, hx⟩ : ∃ x, y.x = x := ⟨_, rfl⟩
  obtain ⟨d, c, q, x⟩ := y
  dsimp only at hx
  subst hx
  have H0 : Hd w0 _ (w.alloc (.cells #[.int .i64 0, .int .i64 0, .int .i64 0] 37)) := H.fol
  have k0 := (show _ = some (Value.pointer (some ⟨q, 0, none⟩)) from (H0.k d).ce 3 rfl)
  have hnx := wqNext (H0.k q) hq hx
  clear H
  go_enter Tryz.func60, Tryz.ntmps60
  go_wp2_with fail
  refine hnx.mono ?_
  rintro e w1 ⟨rfl, H1⟩
  clear hnx k0 H0
  have H2a : Hd w0 _ (w1.alloc (.cells #[.int .i64 v.job, .int .i64 v.task, .int .i64 v.level] 37)) := H1.fol
  have hf := H2a.facts
  simp only [Nat.reduceAdd] at hf
  go_split_ands
  have H2 := H2a.drew

  have k1 := (show _ = some (Value.pointer (some ⟨l, 0, none⟩)) from (H2.k d).ce 0 rfl)
  have k2 := (show _ = some (Value.int .i64 v.level) from (H2.k w1.heap.size).ce 2 rfl)
  have hcl := lkCeiling (H2.k l) (by omega)
  obtain ⟨T, hT⟩ : ∃ T, topI m.co.ce = T := ⟨_, rfl⟩
  rw [hT] at hcl h1
  replace hT := Lib.hid hT
  go_wp2_with fail
  refine wp_region_mix 10 [(0, true), (1, true), (2, true), (3, true), (4, true), (5, true), (6, true), (7, true), (8, true), (9, false)] (fun w' => w'.cell? ⟨d, 0, none⟩ = some (.pointer (some ⟨l, 0, none⟩)) ∧ w'.cell? ⟨w1.heap.size, 2, none⟩ = some (.int .i64 v.level)) (by kernel_rfl) (by kernel_rfl) (⟨k1, k2⟩) (fun _ _ d _ _ h => by cases d <;> exact h) ?_
  simp only [List.drop_succ_cons, List.drop_zero]
  iterate 9 (refine mix_head (o := _) (v := ?_) (by (simp only [List.getElem?_toArray, List.getElem?_cons_succ, List.getElem?_cons_zero]); rfl) (by rfl) (fun w' hS => ?_) ?_; rotate_left 1; (focus ((try dsimp only at hS); (try go_split_ands); go_simp; (try with_reducible rfl))); (try simp only [Act.put, List.setIfInBounds_toArray, List.set_cons_zero, List.set_cons_succ]))
  refine mix_mid (o := _) (by (simp only [List.getElem?_toArray, List.getElem?_cons_succ, List.getElem?_cons_zero]); rfl) ?_
  go_wp2_with fail
  refine hcl.mono ?_
  rintro e w2 ⟨rfl, rfl⟩
  clear hcl
  go_wp2_with fail
  refine mixQ_in ⟨k1, k2⟩ ?_
  refine mix_end ?_
  (try dsimp only)
  have hr := lkRunning (H2.k l) hj hn
  go_wp2_with fail
  refine hr.mono ?_
  rintro e w2 ⟨rfl, H3⟩
  clear hr
  have H4 : Hd w0 _ (w2.alloc (.cells #[.int .i64 j.act.job, .int .i64 j.act.task, .int .i64 j.act.level, .int .i64 j.act.at_] 160)) := H3.fol
  have hf4 := H4.facts
  simp only [Nat.reduceAdd] at hf4
  go_split_ands
  go_wp2_with fail
  have HX : Hd w0 _ _ := H4
  refine bodyPost_ret (results_row_tmp rfl _ _ w.heap.size 37 #[.int .i64 v.job, .int .i64 v.task, .int .i64 v.level] (0, 0) _ (by rfl) (by exact ((Hd.fol HX : Hd w0 _ _).k w.heap.size).heap) Tryz.underlying37 rfl (by kernel_rfl)) rfl ⟨rfl, ?_⟩
  exact Hd.fin HX
end
end Go.Proofs.YtogcikilphakmaaGreatDoor

/-
  Package dispatch: May as the model says; core's Step as the model says. Every dispatch.
-/
namespace Go.Proofs.YtogcikilphakmaaGreatDoor
open Go.RowKit Spl

section
variable {w0 w : World} {R : List Pr} {tk : TkM} {S : Hp} {y : DpV} {m : DpM}
theorem dpMay (H : Hd w0 (DpL y tk S m R) w) (hq : m.wq.Ok) (hc : m.co.ce.length ≤ 5000) (hn : m.co.jobs.length ≤ 1000) :
    Calls Tryz.prog 60 #[.pointer (some ⟨y.d, 0, none⟩)] w fun e w' => e = .returned (.tuple #[waitV (m.may.getD .zero), .bool m.may.isSome]) ∧ Hd w0 (DpL y tk S m R) w' := by
  unfold DpM.may
  cases hx : m.wq.next with
  | none => exact dpMayA H hq hx
  | some v =>
    dsimp only
    by_cases h1 : v.level ≤ topI m.co.ce
    · rw [if_pos h1]
      exact dpMayB H hq hc hx h1
    · rw [if_neg h1]
      rcases nil_or_snoc m.co.jobs with hj | ⟨js, j, hj⟩
      · rw [hj]
        exact dpMayC H hq hc hx h1 hj
      · have hl : m.co.jobs.getLast? = some j := by rw [hj]; simp
        have hjl : js.length ≤ 1000 := by rw [hj] at hn; simp at hn; omega
        rw [hl]
        dsimp only
        by_cases h2 : v.level ≤ j.level
        · rw [if_pos h2]
          exact dpMayD H hq hc hx h1 hj hjl h2
        · rw [if_neg h2]
          exact dpMayE H hq hc hx h1 hj hjl h2
/-- What a core must have for a step. -/
def StepOk (tk : TkM) (m : CoM) : Prop := ∀ j, m.jobs.getLast? = some j → ∃ o, j.steps[j.pos]? = some o ∧ (1 ≤ o.kind ∧ o.kind ≤ 9) ∧ j.pos ≤ 100000 ∧ ActOk tk m j o
theorem coStepAll {c : Nat} {x : CoV} {m : CoM} (H : Hd w0 (cel c 112 (coreRow c x.l) :: LkP x S m :: TkP x.t tk S :: ro S :: R) w) (hn : m.jobs.length ≤ 1000) (h : StepOk tk m) :
    Calls Tryz.prog 63 #[.pointer (some ⟨c, 0, none⟩)] w fun e w' => e = .returned (.tuple #[.agg (doneA (((m.step tk).map Prod.fst).getD .zero)), .bool (m.step tk).isSome]) ∧
      Hd w0 (cel c 112 (coreRow c x.l) :: LkP x S (((m.step tk).map Prod.snd).getD m) :: TkP x.t tk S :: ro S :: R) w' := by
  unfold CoM.step
  rcases nil_or_snoc m.jobs with hj | ⟨js, j, hj⟩
  · rw [hj]
    exact coStepNo H hj
  · have hl : m.jobs.getLast? = some j := by rw [hj]; simp
    have hdl : m.jobs.dropLast = js := by rw [hj]; simp
    have hjl : js.length ≤ 1000 := by rw [hj] at hn; simp at hn; omega
    obtain ⟨o, ho, hk, hp, ha⟩ := h j hl
    rw [hl, hdl]
    dsimp only
    rw [ho]
    dsimp only
    by_cases h9 : o.kind = 9
    · rw [if_pos h9]
      exact coStepFin H hj hjl ho h9 hp ha
    · rw [if_neg h9]
      exact coStep H hj hjl ho ⟨hk.1, by omega⟩ hp ha
end
end Go.Proofs.YtogcikilphakmaaGreatDoor

/-
  Package dispatch: Step. Every dispatch.
-/
namespace Go.Proofs.YtogcikilphakmaaGreatDoor
open Go.RowKit Spl

abbrev didA (d : DidM) : Array Value := #[.bool d.started, .int .i64 d.start.job, .int .i64 d.start.task, .int .i64 d.start.level, .bool d.idle, .int .i64 d.done.job, .int .i64 d.done.task, .int .i64 d.done.op.kind, .int .i64 d.done.op.res, .int .i64 d.done.op.n, .int .i64 d.done.op.v, .int .i64 d.done.why, .bool d.done.fin]
/-- What a dispatch must have for a step. -/
structure DpS (tk : TkM) (m : DpM) : Prop where
  t : tk.Ok
  q : m.wq.Ok
  a : m.co.ar.Ok
  c : m.co.ce.length ≤ 5000
  n : m.co.jobs.length ≤ 900
  few : m.co.ar.fr.length ≤ 900
  w : ∀ v, m.may = some v → 0 ≤ v.task ∧ v.task < 64 ∧ 0 ≤ v.job ∧ placeM m.co.jobs v.job = -1 ∧ ∃ r, tk.rows[v.task.toNat]? = some r ∧ m.co.ar.openE r.t.fr = 0
  s : StepOk tk (m.begin tk).2.co
theorem doneA_one (d : DoneM) : (doneA d).all (·.oneCell') = true := all_oneCell_toArray fun v hv => by
  simp only [List.mem_cons, List.not_mem_nil, or_false] at hv
  rcases hv with rfl | rfl | rfl | rfl | rfl | rfl | rfl | rfl <;> rfl
theorem didA_one (d : DidM) : (didA d).all (·.oneCell') = true := all_oneCell_toArray fun v hv => by
  simp only [List.mem_cons, List.not_mem_nil, or_false] at hv
  rcases hv with rfl | rfl | rfl | rfl | rfl | rfl | rfl | rfl | rfl | rfl | rfl | rfl | rfl <;> rfl
theorem may_next {m : DpM} {v : WaitM} (h : m.may = some v) : m.wq.next = some v := by
  unfold DpM.may at h
  cases hx : m.wq.next with
  | none => rw [hx] at h; cases h
  | some u =>
    rw [hx] at h
    dsimp only at h
    split at h
    · cases h
    · split at h
      · split at h
        · cases h
        · exact h
      · exact h
section
variable {w0 w : World} {R : List Pr} {tk : TkM} {S : Hp} {y : DpV} {m : DpM}
set_option maxRecDepth 20000 in
set_option maxHeartbeats 4000000 in
theorem dpStepA (H : Hd w0 (DpL y tk S m R) w) (hs : DpS tk m) (hm : m.may = none) {D : DoneM} {B : Bool} {C : CoM} (hD : ((m.co.step tk).map Prod.fst).getD .zero = D) (hB : (m.co.step tk).isSome = B) (hC : ((m.co.step tk).map Prod.snd).getD m.co = C) :
    Calls Tryz.prog 33 #[.pointer (some ⟨y.d, 0, none⟩)] w fun e w' => e = .returned (.agg (didA ⟨false, .zero, !B, D⟩)) ∧ Hd w0 (DpL y tk S ⟨C, m.wq, m.count⟩ R) w' := by
  obtain ⟨⟨l, t, a, u, ce⟩, hx⟩ : ∃ x, y.x = x := ⟨_, rfl⟩
  obtain ⟨d, c, q, x⟩ := y
  dsimp only at hx
  subst hx
  have H0 : Hd w0 _ ((w.alloc (.cells #[.bool false, .int .i64 0, .int .i64 0, .int .i64 0, .bool false, .int .i64 0, .int .i64 0, .int .i64 0, .int .i64 0, .int .i64 0, .int .i64 0, .int .i64 0, .bool false] 43)).alloc (.cells #[.bool false, .int .i64 0, .int .i64 0, .int .i64 0, .bool false, .int .i64 0, .int .i64 0, .int .i64 0, .int .i64 0, .int .i64 0, .int .i64 0, .int .i64 0, .bool false] 43)) := H.fol
  have H0a : Hd w0 (DpL ⟨d, c, q, ⟨l, t, a, u, ce⟩⟩ tk S m (cel w.heap.size 43 #[.bool false, .int .i64 0, .int .i64 0, .int .i64 0, .bool false, .int .i64 0, .int .i64 0, .int .i64 0, .int .i64 0, .int .i64 0, .int .i64 0, .int .i64 0, .bool false] :: cel (w.heap.size + 1) 43 #[.bool false, .int .i64 0, .int .i64 0, .int .i64 0, .bool false, .int .i64 0, .int .i64 0, .int .i64 0, .int .i64 0, .int .i64 0, .int .i64 0, .int .i64 0, .bool false] :: R)) _ := H0.re
  have hmy := dpMay H0a hs.q hs.c (by have := hs.n; omega)
  have hb : (m.begin tk).2 = m := by unfold DpM.begin; rw [hm]
  have hsk := hs.s
  rw [hb] at hsk
  rw [hm] at hmy
  simp only [Option.getD_none, WaitM.zero, Option.isSome_none] at hmy
  have hn := hs.n
  have hst := fun (w1 : World) (X : List Pr) (h : Hd w0 (cel c 112 (coreRow c l) :: LkP ⟨l, t, a, u, ce⟩ S m.co :: TkP t tk S :: ro S :: X) w1) => coStepAll (x := ⟨l, t, a, u, ce⟩) h (by omega) hsk
  rw [hD, hB, hC] at hst
  replace hst := Lib.hid hst
  replace hD := Lib.hid hD
  replace hB := Lib.hid hB
  replace hC := Lib.hid hC
  replace hm := Lib.hid hm
  replace hb := Lib.hid hb
  clear hs hsk hn H
  go_enter Tryz.func33, Tryz.ntmps33
  go_wp2_with fail
  refine hmy.mono ?_
  rintro e w1 ⟨rfl, H1⟩
  clear hmy H0 H0a
  have H2 : Hd w0 _ (w1.alloc (.cells #[.int .i64 0, .int .i64 0, .int .i64 0] 37)) := H1.fol
  have hsc := hst.out _ (cel w1.heap.size 37 #[.int .i64 0, .int .i64 0, .int .i64 0] :: cel d 78 #[.pointer (some ⟨l, 0, none⟩), .pointer (some ⟨t, 0, none⟩), .pointer (some ⟨c, 0, none⟩), .pointer (some ⟨q, 0, none⟩), .int .i64 m.count] :: WqP q m.wq :: cel w.heap.size 43 #[.bool false, .int .i64 0, .int .i64 0, .int .i64 0, .bool false, .int .i64 0, .int .i64 0, .int .i64 0, .int .i64 0, .int .i64 0, .int .i64 0, .int .i64 0, .bool false] :: cel (w.heap.size + 1) 43 #[.bool false, .int .i64 0, .int .i64 0, .int .i64 0, .bool false, .int .i64 0, .int .i64 0, .int .i64 0, .int .i64 0, .int .i64 0, .int .i64 0, .int .i64 0, .bool false] :: R) H2.re
  have d2 := (show _ = some (Value.pointer (some ⟨c, 0, none⟩)) from (H2.k d).ce 2 rfl)
  go_wp2_with fail
  refine hsc.mono ?_
  rintro e w2 ⟨rfl, H3⟩
  clear hsc H2 H1
  have H4 : Hd w0 _ (w2.alloc (.cells (doneA D) 41)) := H3.fol
  clear d2
  have H4p : Hd w0 (cel (w.heap.size + 1) 43 #[.bool false, .int .i64 0, .int .i64 0, .int .i64 0, .bool false, .int .i64 0, .int .i64 0, .int .i64 0, .int .i64 0, .int .i64 0, .int .i64 0, .int .i64 0, .bool false] :: _) _ := H4.k (w.heap.size + 1)
  go_wp2_with (first | (refine wpList_store_part (g := w.heap.size + 1) (off := 5) (pre := [.bool false, .int .i64 0, .int .i64 0, .int .i64 0, .bool false]) (old := [.int .i64 0, .int .i64 0, .int .i64 0, .int .i64 0, .int .i64 0, .int .i64 0, .int .i64 0, .bool false]) (post := []) (cells := doneA D) H4p rfl rfl rfl 41 _ _ rfl rfl rfl (by kernel_rfl) (doneA_one D) ?_; intro w5 H10; have HA : Hd w0 (cel (w.heap.size + 1) 43 #[.bool false, .int .i64 0, .int .i64 0, .int .i64 0, .bool false, .int .i64 D.job, .int .i64 D.task, .int .i64 D.op.kind, .int .i64 D.op.res, .int .i64 D.op.n, .int .i64 D.op.v, .int .i64 D.why, .bool D.fin] :: _) w5 := H10; have hfA := HA.fact1; simp only [Nat.reduceAdd] at hfA; go_split_ands; have HB : Hd w0 (cel (w.heap.size + 1) 43 #[.bool false, .int .i64 0, .int .i64 0, .int .i64 0, .bool (!B), .int .i64 D.job, .int .i64 D.task, .int .i64 D.op.kind, .int .i64 D.op.res, .int .i64 D.op.n, .int .i64 D.op.v, .int .i64 D.why, .bool D.fin] :: _) (w5.setCell ⟨w.heap.size + 1, 4, none⟩ (.bool (!B))) := HA.set 4 (.bool (!B))) | (refine wpList_store_all (g := w.heap.size) (cells := didA ⟨false, ⟨0, 0, 0⟩, !B, D⟩) (HB.k w.heap.size) rfl 43 _ _ rfl rfl rfl (by kernel_rfl) rfl (didA_one _) ?_; intro w6 H11))
  refine bodyPost_ret (results_row rfl _ _ w.heap.size 43 (didA ⟨false, ⟨0, 0, 0⟩, !B, D⟩) (0, 0) _ (by rfl) (by exact H11.heap) Tryz.underlying43 rfl (by kernel_rfl)) rfl ⟨rfl, ?_⟩
  exact Hd.fin H11
end
end Go.Proofs.YtogcikilphakmaaGreatDoor
