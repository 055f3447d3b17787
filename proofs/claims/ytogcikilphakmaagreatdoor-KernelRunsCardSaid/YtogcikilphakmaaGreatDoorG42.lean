/-
  Merged texts of one proof: Co12, DpM, Dp1.
-/
import Derived.Test.YtogcikilphakmaaGreatDoorG23
import Derived.Test.YtogcikilphakmaaGreatDoorG41

/-
  Package core: Step. Every core.
-/
namespace Go.Proofs.YtogcikilphakmaaGreatDoor
open Go.RowKit Spl

structure DoneM where
  job : Int
  task : Int
  op : OpM
  why : Int
  fin : Bool
  deriving DecidableEq
abbrev doneA (d : DoneM) : Array Value := #[.int .i64 d.job, .int .i64 d.task, .int .i64 d.op.kind, .int .i64 d.op.res, .int .i64 d.op.n, .int .i64 d.op.v, .int .i64 d.why, .bool d.fin]
theorem opF_enters {k : Nat} (h1 : 1 ≤ k) (h2 : k ≤ 9) : ∀ args w, (callFunc (opF k) args).run Tryz.prog w = .ok (.enter (opF k) args) w := by
  obtain rfl | rfl | rfl | rfl | rfl | rfl | rfl | rfl | rfl : k = 1 ∨ k = 2 ∨ k = 3 ∨ k = 4 ∨ k = 5 ∨ k = 6 ∨ k = 7 ∨ k = 8 ∨ k = 9 := by omega
  · exact enters_of Tryz.func133 (by kernel_rfl) rfl
  · exact enters_of Tryz.func134 (by kernel_rfl) rfl
  · exact enters_of Tryz.func135 (by kernel_rfl) rfl
  · exact enters_of Tryz.func136 (by kernel_rfl) rfl
  · exact enters_of Tryz.func137 (by kernel_rfl) rfl
  · exact enters_of Tryz.func138 (by kernel_rfl) rfl
  · exact enters_of Tryz.func139 (by kernel_rfl) rfl
  · exact enters_of Tryz.func140 (by kernel_rfl) rfl
  · exact enters_of Tryz.func141 (by kernel_rfl) rfl
def DoneM.zero : DoneM := ⟨0, 0, ⟨0, 0, 0, 0⟩, 0, false⟩
section
variable {w0 w : World} {R : List Pr} {c : Nat} {x : CoV} {tk : TkM} {S : Hp} {m : CoM}
set_option maxRecDepth 20000 in
set_option maxHeartbeats 4000000 in
theorem coStepNo (H : Hd w0 (cel c 112 (coreRow c x.l) :: LkP x S m :: R) w) (hj : m.jobs = []) :
    Calls Tryz.prog 63 #[.pointer (some ⟨c, 0, none⟩)] w fun e w' => e = .returned (.tuple #[.agg (doneA .zero), .bool false]) ∧ Hd w0 (cel c 112 (coreRow c x.l) :: LkP x S m :: R) w' := by
  obtain ⟨vj, bs, hb, H1⟩ := LkP.opened H.b2
  obtain ⟨l, t, a, u, ce⟩ := x
  have hbs : bs = [] := List.eq_nil_of_length_eq_zero (by rw [hb, hj]; rfl)
  subst hbs
  have H2 : Hd w0 _ (w.alloc (.cells #[.int .i64 0, .int .i64 0, .int .i64 0, .int .i64 0, .int .i64 0, .int .i64 0, .int .i64 0, .bool false] 41)) := H1.fol
  have hc := stkTopNo_started (o := 4) ((H2.v vj).k l) rfl
  have hf := H2.facts
  simp only [Nat.reduceAdd] at hf
  go_split_ands
  go_enter Tryz.func63, Tryz.ntmps63
  go_wp2_with fail
  refine hc.mono ?_
  rintro e w1 ⟨rfl, rfl⟩
  clear hc
  go_wp2_with fail
  refine bodyPost_ret (results_row_tmp rfl _ _ w.heap.size 41 (doneA .zero) (0, 0) _ (by rfl) (by exact (H2.k w.heap.size).heap) Tryz.underlying41 rfl (by kernel_rfl)) rfl ⟨rfl, ?_⟩
  exact (LkP.shut (x := ⟨l, t, a, u, ce⟩) (vj := vj) (bs := []) (by exact H2.re) hb).b2
set_option maxRecDepth 20000 in
set_option maxHeartbeats 4000000 in
/-- A step: all but what the operation does. -/
theorem coStepBy {js : List StM} {j : StM} {o : OpM} {why : Int} {N : Pr} (H : Hd w0 (cel c 112 (coreRow c x.l) :: LkP x S m :: TkP x.t tk S :: ro S :: R) w) (hj : m.jobs = js ++ [j]) (hn : js.length ≤ 1000) (ho : j.steps[j.pos]? = some o) (hk : 1 ≤ o.kind ∧ o.kind ≤ 9) (hp : j.pos ≤ 100000)
    (hact : ∀ (w1 : World) (vj v : Value) (bs : List Nat) (b : Nat) (X : List Pr), bs.length = js.length → RoE S 39 v j.steps → Hd w0 (CoL c x vj tk S m (SlE 158 vj (bs.map Ptr.mk ++ [(⟨b⟩ : Ptr)]) :: all (List.zipWith (stB S) bs js) :: X)) w1 →
      Calls Tryz.prog (opF o.kind) #[.pointer (some ⟨c, 0, none⟩), actV j.act, opV o] w1 fun e w' => e = .returned (.int .i64 why) ∧ ∃ M : Pr, (∀ (Z : List Pr) (w2 : World), Hd w0 (M :: cel b 162 (stRow ⟨j.job, j.task, j.level, j.pos + 1, j.steps⟩ v) :: Z) w2 → Hd w0 (N :: Z) w2) ∧ Hd w0 (M :: X) w') :
    Calls Tryz.prog 63 #[.pointer (some ⟨c, 0, none⟩)] w fun e w' => e = .returned (.tuple #[.agg (doneA ⟨j.job, j.task, o, why, decide (o.kind = 9)⟩), .bool true]) ∧ Hd w0 (N :: R) w' := by
  obtain ⟨vj, bs, b, v, hb, hv, H1⟩ := LkP.snoc H.b2 hj
  obtain ⟨l, t, a, u, ce⟩ := x
  obtain ⟨ok, ores, on, ov⟩ := o
  obtain ⟨k, rfl⟩ : ∃ k : Nat, ok = k := ⟨ok.toNat, by dsimp only at hk; omega⟩
  obtain ⟨f, hf⟩ : ∃ f, opF k = f := ⟨_, rfl⟩
  have hrow := coreRow_at c l (k := k) (by dsimp only at hk; omega) (by dsimp only at hk; omega)
  dsimp only at hact hrow
  have hcf := opF_enters (k := k) (by dsimp only at hk; omega) (by dsimp only at hk; omega)
  rw [hf] at hact hrow hcf
  replace hact := Lib.hid hact
  have hvv := hv
  rcases hvv with ⟨-, hv0, -⟩ | ⟨g, cap, sp, rfl, hcap, -, hlen, hS⟩
  · exfalso
    have := lt_of_get? ho
    omega
  have hpl := lt_of_get? ho
  obtain ⟨Q, hQ⟩ : ∃ Q, j.steps.length = Q := ⟨_, rfl⟩
  rw [hQ] at hpl hcap
  have hv' := Lib.hid hv
  have H2 : Hd w0 _ (w.alloc (.cells #[.int .i64 0, .int .i64 0, .int .i64 0, .int .i64 0, .int .i64 0, .int .i64 0, .int .i64 0, .bool false] 41)) := H1.fol
  have hc := stkTop_started (o := 4) ((H2.v vj).k l) rfl (by rw [List.length_map]; omega)
  have hro := fun (w1 : World) (L : List Pr) (h : Hd w0 (ro S :: L) w1) (q : Nat) (y : Value) (hy : (Enc.cells (⟨(k : Int), ores, on, ov⟩ : OpM))[q]? = some y) => h.ro_rd hv (flat_at ho hy)
  simp only [Enc.size] at hro
  replace hro := Lib.hid hro
  rw [hQ] at H2
  have r0 := hro.out _ _ (H2.k 0) 0 _ rfl
  have r1 := hro.out _ _ (H2.k 0) 1 _ rfl
  have r2 := hro.out _ _ (H2.k 0) 2 _ rfl
  have r3 := hro.out _ _ (H2.k 0) 3 _ rfl
  simp only [Nat.add_zero] at r0
  have b3 := (show _ = some (Value.int .i64 j.pos) from (H2.k b).ce 3 rfl)
  have b4 := (show _ = some (Value.slice (some ⟨g, 0, none⟩) Q cap) from (H2.k b).ce 4 rfl)
  have k0 := (show _ = some (Value.pointer (some ⟨l, 0, none⟩)) from (H2.k c).ce 0 rfl)
  have n1 : (j.pos : Int) < Q := by omega
  have n2 : ¬ (j.pos : Int) < 0 := by omega
  have n3 : ¬ Q ≤ j.pos := by omega
  have g6 : IntKind.i64.wrap ((j.pos : Int) + 1) = (j.pos : Int) + 1 := IntWalk.i64_in _ (by omega)
  replace hv := Lib.hid hv
  replace hb := Lib.hid hb
  replace hS := Lib.hid hS
  replace hQ := Lib.hid hQ
  replace hf := Lib.hid hf
  replace hk := Lib.hid hk
  replace hj := Lib.hid hj
  clear H H1 hlen ho
  go_enter Tryz.func63, Tryz.ntmps63
  go_wp2_with fail
  refine hc.mono ?_
  rintro e w1 ⟨rfl, rfl⟩
  clear hc
  have H3 : Hd w0 _ ((w.alloc (.cells #[.int .i64 0, .int .i64 0, .int .i64 0, .int .i64 0, .int .i64 0, .int .i64 0, .int .i64 0, .bool false] 41)).drew.alloc (.cells #[.int .i64 0, .int .i64 0, .int .i64 0, .int .i64 0] 39)) := H2.fol
  go_wp2_with fail
  refine wp_region_mix 12 [(0, true), (1, true), (2, true), (3, true), (4, true), (5, true), (6, true), (7, true), (8, true), (9, true), (10, true), (11, false)] (fun w' => w'.cell? ⟨b, 3, none⟩ = some (.int .i64 j.pos) ∧ w'.cell? ⟨b, 4, none⟩ = some (.slice (some ⟨g, 0, none⟩) Q cap) ∧ w'.cell? ⟨g, j.pos * 4, none⟩ = some (.int .i64 k) ∧ w'.cell? ⟨g, j.pos * 4 + 1, none⟩ = some (.int .i64 ores) ∧ w'.cell? ⟨g, j.pos * 4 + 2, none⟩ = some (.int .i64 on) ∧ w'.cell? ⟨g, j.pos * 4 + 3, none⟩ = some (.int .i64 ov)) (by kernel_rfl) (by kernel_rfl) (⟨b3, b4, r0, r1, r2, r3⟩) (fun _ _ d _ _ h => by cases d <;> exact h) ?_
  simp only [List.drop_succ_cons, List.drop_zero]
  iterate 11 (refine mix_head (o := _) (v := ?_) (by (simp only [List.getElem?_toArray, List.getElem?_cons_succ, List.getElem?_cons_zero]); rfl) (by rfl) (fun w' hS => ?_) ?_; rotate_left 1; (focus ((try dsimp only at hS); (try go_split_ands); go_simp; (try with_reducible rfl))); (try simp only [Act.put, List.setIfInBounds_toArray, List.set_cons_zero, List.set_cons_succ]))
  refine mix_mid (o := _) (by (simp only [List.getElem?_toArray, List.getElem?_cons_succ, List.getElem?_cons_zero]); rfl) ?_
  go_wp2_with fail
  have s0 := hro.out _ _ (H3.k 0) 0 _ rfl
  simp only [Nat.add_zero] at s0
  refine mixQ_in ⟨(show _ = some _ from (H3.k b).ce 3 rfl), (show _ = some _ from (H3.k b).ce 4 rfl), s0, hro.out _ _ (H3.k 0) 1 _ rfl, hro.out _ _ (H3.k 0) 2 _ rfl, hro.out _ _ (H3.k 0) 3 _ rfl⟩ ?_
  refine mix_end ?_
  (try dsimp only)
  go_wp2_with fail
  have H4 : Hd w0 _ ((w.alloc (.cells #[.int .i64 0, .int .i64 0, .int .i64 0, .int .i64 0, .int .i64 0, .int .i64 0, .int .i64 0, .bool false] 41)).alloc (.cells #[.int .i64 k, .int .i64 ores, .int .i64 on, .int .i64 ov] 39)).drew := H2.fol
  have H5 : Hd w0 _ (((w.alloc (.cells #[.int .i64 0, .int .i64 0, .int .i64 0, .int .i64 0, .int .i64 0, .int .i64 0, .int .i64 0, .bool false] 41)).alloc (.cells #[.int .i64 k, .int .i64 ores, .int .i64 on, .int .i64 ov] 39)).drew.drew.alloc (.cells #[.int .i64 0, .int .i64 0, .int .i64 0, .int .i64 0, .int .i64 0, .int .i64 0, .int .i64 0, .bool false] 41)) := H4.fol
  refine wp_region_mix 16 [(0, true), (1, true), (2, true), (3, true), (4, true), (5, true), (6, true), (7, true), (8, true), (9, true), (10, true), (11, true), (12, true), (13, true), (14, true), (15, false)] (fun w' => w'.cell? ⟨b, 0, none⟩ = some (.int .i64 j.job) ∧ w'.cell? ⟨b, 1, none⟩ = some (.int .i64 j.task) ∧ w'.cell? ⟨w.heap.size + 1, 0, none⟩ = some (.int .i64 k) ∧ w'.cell? ⟨w.heap.size + 1, 1, none⟩ = some (.int .i64 ores) ∧ w'.cell? ⟨w.heap.size + 1, 2, none⟩ = some (.int .i64 on) ∧ w'.cell? ⟨w.heap.size + 1, 3, none⟩ = some (.int .i64 ov)) (by kernel_rfl) (by kernel_rfl) (⟨(show _ = some _ from (H4.k b).ce 0 rfl), (show _ = some _ from (H4.k b).ce 1 rfl), (show _ = some _ from (H4.k (w.heap.size + 1)).ce 0 rfl), (show _ = some _ from (H4.k (w.heap.size + 1)).ce 1 rfl), (show _ = some _ from (H4.k (w.heap.size + 1)).ce 2 rfl), (show _ = some _ from (H4.k (w.heap.size + 1)).ce 3 rfl)⟩) (fun _ _ d _ _ h => by cases d <;> exact h) ?_
  simp only [List.drop_succ_cons, List.drop_zero]
  iterate 15 (refine mix_head (o := _) (v := ?_) (by (simp only [List.getElem?_toArray, List.getElem?_cons_succ, List.getElem?_cons_zero]); rfl) (by rfl) (fun w' hS => ?_) ?_; rotate_left 1; (focus ((try dsimp only at hS); (try go_split_ands); go_simp; (try with_reducible rfl))); (try simp only [Act.put, List.setIfInBounds_toArray, List.set_cons_zero, List.set_cons_succ]))
  refine mix_mid (o := _) (by (simp only [List.getElem?_toArray, List.getElem?_cons_succ, List.getElem?_cons_zero]); rfl) ?_
  go_wp2_with fail
  refine mixQ_in ⟨(show _ = some _ from (H5.k b).ce 0 rfl), (show _ = some _ from (H5.k b).ce 1 rfl), (show _ = some _ from (H5.k (w.heap.size + 1)).ce 0 rfl), (show _ = some _ from (H5.k (w.heap.size + 1)).ce 1 rfl), (show _ = some _ from (H5.k (w.heap.size + 1)).ce 2 rfl), (show _ = some _ from (H5.k (w.heap.size + 1)).ce 3 rfl)⟩ ?_
  refine mix_end ?_
  (try dsimp only)
  go_wp2_with fail
  have H6 : Hd w0 _ (((w.alloc (.cells #[.int .i64 0, .int .i64 0, .int .i64 0, .int .i64 0, .int .i64 0, .int .i64 0, .int .i64 0, .bool false] 41)).alloc (.cells #[.int .i64 k, .int .i64 ores, .int .i64 on, .int .i64 ov] 39)).alloc (.cells #[.int .i64 j.job, .int .i64 j.task, .int .i64 k, .int .i64 ores, .int .i64 on, .int .i64 ov, .int .i64 0, .bool ((k : Int) == 9)] 41)).drew.drew := H2.fol
  have hca := hact.out _ vj _ bs b (cel b 162 (stRow j (.slice (some ⟨g, 0, none⟩) Q cap)) :: cel (w.heap.size + 1) 39 #[.int .i64 k, .int .i64 ores, .int .i64 on, .int .i64 ov] :: cel w.heap.size 41 #[.int .i64 0, .int .i64 0, .int .i64 0, .int .i64 0, .int .i64 0, .int .i64 0, .int .i64 0, .bool false] :: cel (w.heap.size + 1 + 1) 41 #[.int .i64 j.job, .int .i64 j.task, .int .i64 k, .int .i64 ores, .int .i64 on, .int .i64 ov, .int .i64 0, .bool ((k : Int) == 9)] :: R) hb.out hv.out (show Hd w0 _ _ from H6.drew.re)
  rw [hQ.out] at hca
  have hf6 := H6.facts
  simp only [Nat.reduceAdd] at hf6
  go_split_ands
  have m1 : (k : Int) < 12 := by have := hk.out; omega
  have m2 : (0 : Int) ≤ k := by omega
  have m3 : ¬ (k : Int) < 0 := by omega
  have m4 := (show _ = some _ from (H6.k c).ce (1 + k) hrow)
  clear H2 H3 H4 H5
  go_wp2_with fail
  refine wp_region_still_tail 12 (by kernel_rfl) (by kernel_rfl) ?_
  simp only [List.take_succ_cons, List.take_zero, List.drop_succ_cons, List.drop_zero, World.drew_eq]
  (repeat still_step)
  refine wpStill_nil ?_
  go_wp2_with fail
  refine hca.mono ?_
  rintro e w6 ⟨rfl, M, hM, H7⟩
  clear hca H6
  replace hM := Lib.hid hM
  have H8 : Hd w0 _ (w6.setCell ⟨w.heap.size + 1 + 1, 6, none⟩ (.int .i64 why)) := H7.fol
  have H9 : Hd w0 _ ((w6.setCell ⟨w.heap.size + 1 + 1, 6, none⟩ (.int .i64 why)).setCell ⟨b, 3, none⟩ (.int .i64 ((j.pos : Int) + 1))) := H8.fol
  have d3 := (show _ = some _ from (H7.k (w.heap.size + 1 + 1)).ce 6 rfl)
  have d4 := (H7.k (w.heap.size + 1 + 1)).fr 6
  have e3 := (show _ = some _ from (H8.k b).ce 3 rfl)
  have e4 := (H8.k b).fr 3
  have hf9 := H9.facts
  go_split_ands
  go_wp2_with fail
  refine bodyPost_ret (results_row_tmp rfl _ _ w.heap.size 41 (doneA ⟨j.job, j.task, ⟨k, ores, on, ov⟩, why, decide ((k : Int) = 9)⟩) (0, 0) _ (by rfl) (by exact ((Hd.fol H9 : Hd w0 _ _).k w.heap.size).heap) Tryz.underlying41 rfl (by kernel_rfl)) rfl ⟨rfl, ?_⟩
  refine hM.out _ _ ?_
  show Hd w0 (M :: cel b 162 #[.int .i64 j.job, .int .i64 j.task, .int .i64 j.level, .int .i64 ((j.pos : Int) + 1), .slice (some ⟨g, 0, none⟩) Q cap] :: R) _
  exact Hd.fin H9
set_option maxRecDepth 20000 in
theorem coStep {js : List StM} {j : StM} {o : OpM} (H : Hd w0 (cel c 112 (coreRow c x.l) :: LkP x S m :: TkP x.t tk S :: ro S :: R) w) (hj : m.jobs = js ++ [j]) (hn : js.length ≤ 1000) (ho : j.steps[j.pos]? = some o) (hk : 1 ≤ o.kind ∧ o.kind ≤ 8) (hp : j.pos ≤ 100000) (ha : ActOk tk m j o) :
    Calls Tryz.prog 63 #[.pointer (some ⟨c, 0, none⟩)] w fun e w' => e = .returned (.tuple #[.agg (doneA ⟨j.job, j.task, o, (actM tk m j o).1, false⟩), .bool true]) ∧
      Hd w0 (cel c 112 (coreRow c x.l) :: LkP x S { (actM tk m j o).2 with jobs := js ++ [⟨j.job, j.task, j.level, j.pos + 1, j.steps⟩] } :: TkP x.t tk S :: ro S :: R) w' := by
  have h9 : decide (o.kind = 9) = false := by simp; omega
  have hs := coStepBy (N := all [cel c 112 (coreRow c x.l), LkP x S { (actM tk m j o).2 with jobs := js ++ [⟨j.job, j.task, j.level, j.pos + 1, j.steps⟩] }, TkP x.t tk S, ro S]) (why := (actM tk m j o).1) H hj hn ho ⟨hk.1, by omega⟩ hp (by
    intro w1 vj v bs b X hb hv HX
    refine (coAct HX ha hk).mono ?_
    rintro e w2 ⟨rfl, H2⟩
    have H2' : Hd w0 (cel c 112 (coreRow c x.l) :: cel x.l 94 (lookRow x vj) :: TkP x.t tk S :: ro S :: ArP x.a (actM tk m j o).2.ar :: UnP x.u (actM tk m j o).2.un :: CeP x.c (actM tk m j o).2.ce :: SlE 158 vj (bs.map Ptr.mk ++ [(⟨b⟩ : Ptr)]) :: all (List.zipWith (stB S) bs js) :: X) w2 := H2
    refine ⟨rfl, all [cel c 112 (coreRow c x.l), cel x.l 94 (lookRow x vj), TkP x.t tk S, ro S, ArP x.a (actM tk m j o).2.ar, UnP x.u (actM tk m j o).2.un, CeP x.c (actM tk m j o).2.ce, SlE 158 vj (bs.map Ptr.mk ++ [(⟨b⟩ : Ptr)]), all (List.zipWith (stB S) bs js)], ?_, Hd.pack (L := [_, _, _, _, _, _, _, _, _]) H2'⟩
    intro Z w3 H3
    have H4 : Hd w0 (cel c 112 (coreRow c x.l) :: cel x.l 94 (lookRow x vj) :: TkP x.t tk S :: ro S :: ArP x.a (actM tk m j o).2.ar :: UnP x.u (actM tk m j o).2.un :: CeP x.c (actM tk m j o).2.ce :: SlE 158 vj (bs.map Ptr.mk ++ [(⟨b⟩ : Ptr)]) :: all (List.zipWith (stB S) bs js) :: cel b 162 (stRow ⟨j.job, j.task, j.level, j.pos + 1, j.steps⟩ v) :: Z) w3 := H3.flat
    have H5 : Hd w0 (cel x.l 94 (lookRow x vj) :: ArP x.a (actM tk m j o).2.ar :: UnP x.u (actM tk m j o).2.un :: CeP x.c (actM tk m j o).2.ce :: SlE 158 vj (bs.map Ptr.mk ++ [(⟨b⟩ : Ptr)]) :: all (List.zipWith (stB S) bs js) :: cel b 162 (stRow ⟨j.job, j.task, j.level, j.pos + 1, j.steps⟩ v) :: cel c 112 (coreRow c x.l) :: TkP x.t tk S :: ro S :: Z) w3 := H4.re
    exact Hd.pack (L := [_, _, _, _]) (LkP.unsnoc H5 hb hv).b2)
  rw [h9] at hs
  refine hs.mono ?_
  rintro e w2 ⟨rfl, H2⟩
  exact ⟨rfl, H2.flat⟩
set_option maxRecDepth 20000 in
theorem coStepFin {js : List StM} {j : StM} {o : OpM} (H : Hd w0 (cel c 112 (coreRow c x.l) :: LkP x S m :: TkP x.t tk S :: ro S :: R) w) (hj : m.jobs = js ++ [j]) (hn : js.length ≤ 1000) (ho : j.steps[j.pos]? = some o) (hk : o.kind = 9) (hp : j.pos ≤ 100000) (ha : ActOk tk m j o) :
    Calls Tryz.prog 63 #[.pointer (some ⟨c, 0, none⟩)] w fun e w' => e = .returned (.tuple #[.agg (doneA ⟨j.job, j.task, o, 0, true⟩), .bool true]) ∧
      Hd w0 (cel c 112 (coreRow c x.l) :: LkP x S (finishM m j.job) :: TkP x.t tk S :: ro S :: R) w' := by
  have h9 : decide (o.kind = 9) = true := by simp [hk]
  have hfn : opF o.kind = 141 := by rw [hk]; rfl
  have hdl : m.jobs.dropLast = js := by rw [hj]; simp
  have hs := coStepBy (N := all [cel c 112 (coreRow c x.l), LkP x S (finishM m j.job), TkP x.t tk S, ro S]) (why := 0) H hj hn ho ⟨by omega, by omega⟩ hp (by
    intro w1 vj v bs b X hb hv HX
    rw [hfn]
    refine (coFinish HX ha.a ha.f ha.u (by have := ha.c; omega) (by omega) j.act o ha.c2).mono ?_
    rintro e w2 ⟨rfl, vj', H2⟩
    refine ⟨rfl, all [cel c 112 (coreRow c x.l), LkP x S (finishM m j.job), TkP x.t tk S, ro S], ?_, ?_⟩
    · intro Z w3 H3
      exact H3.re
    · have H4 : Hd w0 (cel c 112 (coreRow c x.l) :: cel x.l 94 (lookRow x vj') :: TkP x.t tk S :: ro S :: ArP x.a m.ar.close :: UnP x.u (m.un.popN j.job (m.un.locksN j.job)) :: CeP x.c (m.ce.take (m.ce.length - m.un.locksN j.job)) :: SlE 158 vj' (bs.map Ptr.mk) :: all (List.zipWith (stB S) bs js) :: X) w2 := H2
      have H5 : Hd w0 (cel x.l 94 (lookRow x vj') :: ArP x.a m.ar.close :: UnP x.u (m.un.popN j.job (m.un.locksN j.job)) :: CeP x.c (m.ce.take (m.ce.length - m.un.locksN j.job)) :: SlE 158 vj' (bs.map Ptr.mk) :: all (List.zipWith (stB S) bs js) :: cel c 112 (coreRow c x.l) :: TkP x.t tk S :: ro S :: X) w2 := H4.re
      have H6 : Hd w0 (LkP x S (finishM m j.job) :: cel c 112 (coreRow c x.l) :: TkP x.t tk S :: ro S :: X) w2 := LkP.shut (m := finishM m j.job) (vj := vj') (bs := bs) (by unfold finishM; dsimp only; rw [hdl]; exact H5) (by unfold finishM; dsimp only; rw [hdl]; exact hb)
      exact Hd.pack (L := [_, _, _, _]) H6.b2)
  rw [h9] at hs
  refine hs.mono ?_
  rintro e w2 ⟨rfl, H2⟩
  exact ⟨rfl, H2.flat⟩
end
end Go.Proofs.YtogcikilphakmaaGreatDoor

/-
  Package dispatch: the model; New. Every table.
-/
namespace Go.Proofs.YtogcikilphakmaaGreatDoor
open Go.RowKit Spl

/-- Jobs that wait, and a core. -/
structure DpM where
  co : CoM
  wq : WqM
  count : Nat
structure DidM where
  started : Bool
  start : WaitM
  idle : Bool
  done : DoneM
  deriving DecidableEq
def WaitM.zero : WaitM := ⟨0, 0, 0⟩
def CoM.step (tk : TkM) (m : CoM) : Option (DoneM × CoM) := match m.jobs.getLast? with
  | none => none
  | some j => match j.steps[j.pos]? with
    | none => none
    | some o => if o.kind = 9 then some (⟨j.job, j.task, o, 0, true⟩, finishM m j.job)
      else some (⟨j.job, j.task, o, (actM tk m j o).1, false⟩, { (actM tk m j o).2 with jobs := m.jobs.dropLast ++ [⟨j.job, j.task, j.level, j.pos + 1, j.steps⟩] })
def DpM.may (m : DpM) : Option WaitM := match m.wq.next with
  | none => none
  | some w => if w.level ≤ topI m.co.ce then none else match m.co.jobs.getLast? with
    | some j => if w.level ≤ j.level then none else some w
    | none => some w
def DpM.begin (tk : TkM) (m : DpM) : Option WaitM × DpM := match m.may with
  | none => (none, m)
  | some w => match tk.rows[w.task.toNat]? with
    | none => (none, m)
    | some r => (some w, ⟨m.co.begun w.job w.task.toNat r, m.wq.take, m.count⟩)
def DpM.step (tk : TkM) (m : DpM) : DidM × DpM := match (m.begin tk).2.co.step tk with
  | none => (⟨(m.begin tk).1.isSome, (m.begin tk).1.getD .zero, true, .zero⟩, (m.begin tk).2)
  | some (d, co) => (⟨(m.begin tk).1.isSome, (m.begin tk).1.getD .zero, false, d⟩, ⟨co, (m.begin tk).2.wq, (m.begin tk).2.count⟩)
def DpM.releaseE (tk : TkM) (m : DpM) (task : Nat) : Int := match tk.rows[task]? with
  | none => 1
  | some r => m.wq.putE task r.t.lv m.count
def DpM.release (tk : TkM) (m : DpM) (task : Nat) : DpM := match tk.rows[task]? with
  | none => m
  | some r => if m.wq.putE task r.t.lv m.count = 0 then ⟨m.co, m.wq.put task r.t.lv m.count, m.count + 1⟩ else m
def DpM.new (tk : TkM) : DpM := ⟨CoM.new tk, WqM.empty, 0⟩
/-- Where the parts of a dispatch lie. -/
structure DpV where
  d : Nat
  c : Nat
  q : Nat
  x : CoV
abbrev DpL (y : DpV) (tk : TkM) (S : Hp) (m : DpM) (R : List Pr) : List Pr :=
  cel y.d 78 #[.pointer (some ⟨y.x.l, 0, none⟩), .pointer (some ⟨y.x.t, 0, none⟩), .pointer (some ⟨y.c, 0, none⟩), .pointer (some ⟨y.q, 0, none⟩), .int .i64 m.count] ::
    cel y.c 112 (coreRow y.c y.x.l) :: LkP y.x S m.co :: WqP y.q m.wq :: TkP y.x.t tk S :: ro S :: R
section
variable {w0 w : World} {R : List Pr} {tk : TkM} {S : Hp} {y : DpV} {m : DpM}
set_option maxRecDepth 20000 in
set_option maxHeartbeats 4000000 in
theorem dpNew {t : Nat} (H : Hd w0 (TkP t tk S :: ro S :: R) w) (ht : tk.Ok) :
    Calls Tryz.prog 23 #[.pointer (some ⟨t, 0, none⟩)] w fun e w' => ∃ y : DpV, y.x.t = t ∧ e = .returned (.tuple #[.pointer (some ⟨y.d, 0, none⟩), .int .i64 0]) ∧ Hd w0 (DpL y tk S (DpM.new tk) R) w' := by
  have hc := coNew H ht
  clear H
  go_enter Tryz.func23, Tryz.ntmps23
  go_wp2_with fail
  refine hc.mono ?_
  rintro e w1 ⟨c, x, hx, rfl, H1⟩
  clear hc
  obtain ⟨l, t', a, u, ce⟩ := x
  dsimp only at hx
  subst hx
  have k0 := (show _ = some (Value.pointer (some ⟨l, 0, none⟩)) from (H1.k c).ce 0 rfl)
  have hq := wqNew H1.drew
  go_wp2_with fail
  refine wp_region_mix 7 [(0, true), (1, true), (2, true), (3, true), (4, true), (5, true), (6, false)] (fun w' => w'.cell? ⟨c, 0, none⟩ = some (.pointer (some ⟨l, 0, none⟩))) (by kernel_rfl) (by kernel_rfl) (k0) (fun _ _ d _ _ h => by cases d <;> exact h) ?_
  simp only [List.drop_succ_cons, List.drop_zero]
  iterate 6 (refine mix_head (o := _) (v := ?_) (by (simp only [List.getElem?_toArray, List.getElem?_cons_succ, List.getElem?_cons_zero]); rfl) (by rfl) (fun w' hS => ?_) ?_; rotate_left 1; (focus ((try dsimp only at hS); (try go_split_ands); go_simp; (try with_reducible rfl))); (try simp only [Act.put, List.setIfInBounds_toArray, List.set_cons_zero, List.set_cons_succ]))
  refine mix_mid (o := _) (by (simp only [List.getElem?_toArray, List.getElem?_cons_succ, List.getElem?_cons_zero]); rfl) ?_
  go_wp2_with fail
  refine hq.mono ?_
  rintro e w2 ⟨q, rfl, H2⟩
  clear hq
  go_wp2_with fail
  refine mixQ_in (show _ = some (Value.pointer (some ⟨l, 0, none⟩)) from (H2.k c).ce 0 rfl) ?_
  refine mix_end ?_
  (try dsimp only)
  go_wp2_with fail
  go_ret2
  refine ⟨⟨w2.heap.size, c, q, ⟨l, t', a, u, ce⟩⟩, rfl, rfl, ?_⟩
  have H3 : Hd w0 _ (w2.alloc (.cells #[.pointer (some ⟨l, 0, none⟩), .pointer (some ⟨t', 0, none⟩), .pointer (some ⟨c, 0, none⟩), .pointer (some ⟨q, 0, none⟩), .int .i64 0] 78)) := H2.fol
  have H4 : Hd w0 (cel w2.heap.size 78 #[.pointer (some ⟨l, 0, none⟩), .pointer (some ⟨t', 0, none⟩), .pointer (some ⟨c, 0, none⟩), .pointer (some ⟨q, 0, none⟩), .int .i64 0] :: cel c 112 (coreRow c l) :: LkP ⟨l, t', a, u, ce⟩ S (CoM.new tk) :: WqP q WqM.empty :: TkP t' tk S :: ro S :: R) _ := H3.re
  exact H4
set_option maxRecDepth 20000 in
set_option maxHeartbeats 4000000 in
theorem dpRelease (H : Hd w0 (DpL y tk S m R) w) (ht : tk.Ok) (hq : m.wq.Ok) (hc : m.count ≤ 4611686018427387904) {i : Nat} {r : RowM} (hr : tk.rows[i]? = some r) :
    Calls Tryz.prog 31 #[.pointer (some ⟨y.d, 0, none⟩), .int .i64 i] w fun e w' => e = .returned (.tuple #[.int .i64 (if m.releaseE tk i = 0 then m.count else -1), .int .i64 (m.releaseE tk i)]) ∧ Hd w0 (DpL y tk S (m.release tk i) R) w' := by
  have hget := tkGet (show Hd w0 (TkP y.x.t tk S :: ro S :: cel y.d 78 #[.pointer (some ⟨y.x.l, 0, none⟩), .pointer (some ⟨y.x.t, 0, none⟩), .pointer (some ⟨y.c, 0, none⟩), .pointer (some ⟨y.q, 0, none⟩), .int .i64 m.count] :: cel y.c 112 (coreRow y.c y.x.l) :: LkP y.x S m.co :: WqP y.q m.wq :: R) w from H.re) ht hr
  have hE : m.releaseE tk i = m.wq.putE i r.t.lv m.count := by unfold DpM.releaseE; rw [hr]
  have hM : m.release tk i = if m.wq.putE i r.t.lv m.count = 0 then ⟨m.co, m.wq.put i r.t.lv m.count, m.count + 1⟩ else m := by unfold DpM.release; rw [hr]
  rw [hE, hM]
  have hput : ¬ m.wq.putE i r.t.lv m.count = 0 → m.wq.put i r.t.lv m.count = m.wq := fun h => by unfold WqM.put; rw [if_neg h]
  obtain ⟨⟨l, t, a, u, ce⟩, hx⟩ : ∃ x, y.x = x := ⟨_, rfl⟩
  obtain ⟨d, c, q, x⟩ := y
  dsimp only at hx
  subst hx
  have k0 := (show _ = some (Value.pointer (some ⟨t, 0, none⟩)) from (H.k d).ce 1 rfl)
  obtain ⟨⟨nm, lv, fr, nds, cd, p, f, gg⟩, stp⟩ := r
  dsimp only at hget hput
  have g6 : IntKind.i64.wrap ((m.count : Int) + 1) = (m.count : Int) + 1 := IntWalk.i64_in _ (by omega)
  obtain ⟨E, hEE⟩ : ∃ E, m.wq.putE i lv m.count = E := ⟨_, rfl⟩
  dsimp only
  rw [hEE] at hput ⊢
  replace hEE := Lib.hid hEE
  clear hr hE hM H ht
  by_cases h0 : E = 0
  · rw [if_pos h0, if_pos h0]
    subst h0
    go_enter Tryz.func31, Tryz.ntmps31
    go_wp2_with fail
    refine hget.mono ?_
    rintro e w1 ⟨v, rfl, H2⟩
    clear hget k0
    obtain ⟨a1, c1, rfl, -, -, -, -⟩ := H2.slc_form
    have H3 : Hd w0 _ (w1.alloc (.cells #[.string nm, .int .i64 lv, .int .i64 fr, .slice a1 nds.length c1, .string cd, .int .i64 p, .int .i64 f, .int .i64 gg] 33)) := H2.fol
    have hp := wqPut (H3.drew.k q) hq i lv m.count
    have hf := H3.facts
    simp only [Nat.reduceAdd] at hf
    go_split_ands
    rw [hEE.out] at hp
    go_wp2_with fail
    refine wp_region_still_tail 8 (by kernel_rfl) (by kernel_rfl) ?_
    simp only [List.take_succ_cons, List.take_zero, List.drop_succ_cons, List.drop_zero, World.drew_eq]
    (repeat still_step)
    refine wpStill_nil ?_
    go_wp2_with fail
    refine hp.mono ?_
    rintro e w2 ⟨rfl, H4⟩
    clear hp H3 H2
    have hf4 := H4.facts
    simp only [Nat.reduceAdd] at hf4
    go_split_ands
    have H5 : Hd w0 _ (w2.setCell ⟨d, 4, none⟩ (.int .i64 ((m.count : Int) + 1))) := H4.fol
    go_wp2_with fail
    go_ret2
    refine ⟨rfl, ?_⟩
    have H6 : Hd w0 (cel d 78 #[.pointer (some ⟨l, 0, none⟩), .pointer (some ⟨t, 0, none⟩), .pointer (some ⟨c, 0, none⟩), .pointer (some ⟨q, 0, none⟩), .int .i64 ((m.count : Int) + 1)] :: cel c 112 (coreRow c l) :: LkP ⟨l, t, a, u, ce⟩ S m.co :: WqP q (m.wq.put i lv m.count) :: TkP t tk S :: ro S :: R) _ := H5.re
    exact H6
  · rw [if_neg h0, if_neg h0]
    go_enter Tryz.func31, Tryz.ntmps31
    go_wp2_with fail
    refine hget.mono ?_
    rintro e w1 ⟨v, rfl, H2⟩
    clear hget k0
    obtain ⟨a1, c1, rfl, -, -, -, -⟩ := H2.slc_form
    have H3 : Hd w0 _ (w1.alloc (.cells #[.string nm, .int .i64 lv, .int .i64 fr, .slice a1 nds.length c1, .string cd, .int .i64 p, .int .i64 f, .int .i64 gg] 33)) := H2.fol
    have hp := wqPut (H3.drew.k q) hq i lv m.count
    have hf := H3.facts
    simp only [Nat.reduceAdd] at hf
    go_split_ands
    rw [hEE.out] at hp
    go_wp2_with fail
    refine wp_region_still_tail 8 (by kernel_rfl) (by kernel_rfl) ?_
    simp only [List.take_succ_cons, List.take_zero, List.drop_succ_cons, List.drop_zero, World.drew_eq]
    (repeat still_step)
    refine wpStill_nil ?_
    go_wp2_with fail
    refine hp.mono ?_
    rintro e w2 ⟨rfl, H4⟩
    clear hp H3 H2
    have hf4 := H4.facts
    simp only [Nat.reduceAdd] at hf4
    go_split_ands
    rw [hput h0] at H4
    go_wp2_with fail
    go_ret2
    refine ⟨rfl, ?_⟩
    have H6 : Hd w0 (cel d 78 #[.pointer (some ⟨l, 0, none⟩), .pointer (some ⟨t, 0, none⟩), .pointer (some ⟨c, 0, none⟩), .pointer (some ⟨q, 0, none⟩), .int .i64 m.count] :: cel c 112 (coreRow c l) :: LkP ⟨l, t, a, u, ce⟩ S m.co :: WqP q m.wq :: TkP t tk S :: ro S :: R) _ := H4.re
    exact H6
end
end Go.Proofs.YtogcikilphakmaaGreatDoor

/-
  Package dispatch: May. Every dispatch.
-/
namespace Go.Proofs.YtogcikilphakmaaGreatDoor
open Go.RowKit Spl

abbrev waitV (v : WaitM) : Value := .agg #[.int .i64 v.job, .int .i64 v.task, .int .i64 v.level]
instance {l t a u c : Nat} {S : Hp} {m : CoM} : Key (LkP ⟨l, t, a, u, c⟩ S m) (.b l) := ⟨trivial⟩
section
variable {w0 w : World} {R : List Pr} {tk : TkM} {S : Hp} {y : DpV} {m : DpM}
set_option maxRecDepth 20000 in
set_option maxHeartbeats 4000000 in
theorem dpMayA (H : Hd w0 (DpL y tk S m R) w) (hq : m.wq.Ok) (hx : m.wq.next = none) :
    Calls Tryz.prog 60 #[.pointer (some ⟨y.d, 0, none⟩)] w fun e w' => e = .returned (.tuple #[waitV .zero, .bool false]) ∧ Hd w0 (DpL y tk S m R) w' := by
  obtain ⟨⟨l, t, a, u, ce⟩, hx⟩ : ∃ x, y.x = x := ⟨_, rfl⟩
  obtain ⟨d, c, q, x⟩ := y
  dsimp only at hx
  subst hx
  have H0 : Hd w0 _ (w.alloc (.cells #[.int .i64 0, .int .i64 0, .int .i64 0] 37)) := H.fol
  have k0 := (show _ = some (Value.pointer (some ⟨q, 0, none⟩)) from (H0.k d).ce 3 rfl)
  have hnx := wqNextNo (H0.k q) hq hx
  clear H
  go_enter Tryz.func60, Tryz.ntmps60
  go_wp2_with fail
  refine hnx.mono ?_
  rintro e w1 ⟨rfl, H1⟩
  clear hnx k0 H0
  have H2a : Hd w0 _ (w1.alloc (.cells #[.int .i64 0, .int .i64 0, .int .i64 0] 37)) := H1.fol
  have hf := H2a.facts
  simp only [Nat.reduceAdd] at hf
  go_split_ands
  have H2 := H2a.drew

  have k1 := (show _ = some (Value.pointer (some ⟨l, 0, none⟩)) from (H2.k d).ce 0 rfl)
  have k2 := (show _ = some (Value.int .i64 0) from (H2.k w1.heap.size).ce 2 rfl)
  go_wp2_with fail
  refine wp_region_mix 10 [(0, true), (1, true), (2, true), (3, true), (4, true), (5, true), (6, true), (7, true), (8, true), (9, false)] (fun w' => w'.cell? ⟨d, 0, none⟩ = some (.pointer (some ⟨l, 0, none⟩)) ∧ w'.cell? ⟨w1.heap.size, 2, none⟩ = some (.int .i64 0)) (by kernel_rfl) (by kernel_rfl) (⟨k1, k2⟩) (fun _ _ d _ _ h => by cases d <;> exact h) ?_
  simp only [List.drop_succ_cons, List.drop_zero]
  iterate 3 (refine mix_head (o := _) (v := ?_) (by (simp only [List.getElem?_toArray, List.getElem?_cons_succ, List.getElem?_cons_zero]); rfl) (by rfl) (fun w' hS => ?_) ?_; rotate_left 1; (focus ((try dsimp only at hS); (try go_split_ands); go_simp; (try with_reducible rfl))); (try simp only [Act.put, List.setIfInBounds_toArray, List.set_cons_zero, List.set_cons_succ]))
  iterate 6 (refine mix_skip (o := _) (by (simp only [List.getElem?_toArray, List.getElem?_cons_succ, List.getElem?_cons_zero]); rfl) (by rfl) ?_; (try simp only [Act.put, List.setIfInBounds_toArray, List.set_cons_zero, List.set_cons_succ]))
  refine mix_mid (o := _) (by (simp only [List.getElem?_toArray, List.getElem?_cons_succ, List.getElem?_cons_zero]); rfl) ?_
  go_wp2_with fail
  refine mixQ_in ⟨k1, k2⟩ ?_
  refine mix_end ?_
  (try dsimp only)
  go_wp2_with fail
  have HX : Hd w0 _ _ := H2a
  refine bodyPost_ret (results_row_tmp rfl _ _ w.heap.size 37 #[.int .i64 0, .int .i64 0, .int .i64 0] (0, 0) _ (by rfl) (by exact ((Hd.fol HX : Hd w0 _ _).k w.heap.size).heap) Tryz.underlying37 rfl (by kernel_rfl)) rfl ⟨rfl, ?_⟩
  exact Hd.fin HX
set_option maxRecDepth 20000 in
set_option maxHeartbeats 4000000 in
theorem dpMayB (H : Hd w0 (DpL y tk S m R) w) (hq : m.wq.Ok) (hc : m.co.ce.length ≤ 5000) {v : WaitM} (hx : m.wq.next = some v) (h1 : v.level ≤ topI m.co.ce) :
    Calls Tryz.prog 60 #[.pointer (some ⟨y.d, 0, none⟩)] w fun e w' => e = .returned (.tuple #[waitV .zero, .bool false]) ∧ Hd w0 (DpL y tk S m R) w' := by
  obtain ⟨⟨l, t, a, u, ce⟩, hx⟩ : ∃ x, y.x = x := ⟨_, rfl⟩
  obtain ⟨d, c, q, x⟩ := y
  dsimp only at hx
  subst hx
  have H0 : Hd w0 _ (w.alloc (.cells #[.int .i64 0, .int .i64 0, .int .i64 0] 37)) := H.fol
  have k0 := (show _ = some (Value.pointer (some ⟨q, 0, none⟩)) from (H0.k d).ce 3 rfl)
  have hnx := wqNext (H0.k q) hq hx
  clear H
  go_enter Tryz.func60, Tryz.ntmps60
  go_wp2_with fail
  refine hnx.mono ?_
  rintro e w1 ⟨rfl, H1⟩
  clear hnx k0 H0
  have H2a : Hd w0 _ (w1.alloc (.cells #[.int .i64 v.job, .int .i64 v.task, .int .i64 v.level] 37)) := H1.fol
  have hf := H2a.facts
  simp only [Nat.reduceAdd] at hf
  go_split_ands
  have H2 := H2a.drew

  have k1 := (show _ = some (Value.pointer (some ⟨l, 0, none⟩)) from (H2.k d).ce 0 rfl)
  have k2 := (show _ = some (Value.int .i64 v.level) from (H2.k w1.heap.size).ce 2 rfl)
  have hcl := lkCeiling (H2.k l) (by omega)
  obtain ⟨T, hT⟩ : ∃ T, topI m.co.ce = T := ⟨_, rfl⟩
  rw [hT] at hcl h1
  replace hT := Lib.hid hT
  go_wp2_with fail
  refine wp_region_mix 10 [(0, true), (1, true), (2, true), (3, true), (4, true), (5, true), (6, true), (7, true), (8, true), (9, false)] (fun w' => w'.cell? ⟨d, 0, none⟩ = some (.pointer (some ⟨l, 0, none⟩)) ∧ w'.cell? ⟨w1.heap.size, 2, none⟩ = some (.int .i64 v.level)) (by kernel_rfl) (by kernel_rfl) (⟨k1, k2⟩) (fun _ _ d _ _ h => by cases d <;> exact h) ?_
  simp only [List.drop_succ_cons, List.drop_zero]
  iterate 9 (refine mix_head (o := _) (v := ?_) (by (simp only [List.getElem?_toArray, List.getElem?_cons_succ, List.getElem?_cons_zero]); rfl) (by rfl) (fun w' hS => ?_) ?_; rotate_left 1; (focus ((try dsimp only at hS); (try go_split_ands); go_simp; (try with_reducible rfl))); (try simp only [Act.put, List.setIfInBounds_toArray, List.set_cons_zero, List.set_cons_succ]))
  refine mix_mid (o := _) (by (simp only [List.getElem?_toArray, List.getElem?_cons_succ, List.getElem?_cons_zero]); rfl) ?_
  go_wp2_with fail
  refine hcl.mono ?_
  rintro e w2 ⟨rfl, rfl⟩
  clear hcl
  go_wp2_with fail
  refine mixQ_in ⟨k1, k2⟩ ?_
  refine mix_end ?_
  (try dsimp only)
  go_wp2_with fail
  have HX : Hd w0 _ _ := H2a
  refine bodyPost_ret (results_row_tmp rfl _ _ w.heap.size 37 #[.int .i64 0, .int .i64 0, .int .i64 0] (0, 0) _ (by rfl) (by exact ((Hd.fol HX : Hd w0 _ _).k w.heap.size).heap) Tryz.underlying37 rfl (by kernel_rfl)) rfl ⟨rfl, ?_⟩
  exact Hd.fin HX
set_option maxRecDepth 20000 in
set_option maxHeartbeats 4000000 in
theorem dpMayC (H : Hd w0 (DpL y tk S m R) w) (hq : m.wq.Ok) (hc : m.co.ce.length ≤ 5000) {v : WaitM} (hx : m.wq.next = some v) (h1 : ¬ v.level ≤ topI m.co.ce) (hj : m.co.jobs = []) :
    Calls Tryz.prog 60 #[.pointer (some ⟨y.d, 0, none⟩)] w fun e w' => e = .returned (.tuple #[waitV v, .bool true]) ∧ Hd w0 (DpL y tk S m R) w' := by
  obtain ⟨⟨l, t, a, u, ce⟩, hx⟩ : ∃ x, y.x = x := ⟨_, rfl⟩
  obtain ⟨d, c, q, x⟩ := y
  dsimp only at hx
  subst hx
  have H0 : Hd w0 _ (w.alloc (.cells #[.int .i64 0, .int .i64 0, .int .i64 0] 37)) := H.fol
  have k0 := (show _ = some (Value.pointer (some ⟨q, 0, none⟩)) from (H0.k d).ce 3 rfl)
  have hnx := wqNext (H0.k q) hq hx
  clear H
  go_enter Tryz.func60, Tryz.ntmps60
  go_wp2_with fail
  refine hnx.mono ?_
  rintro e w1 ⟨rfl, H1⟩
  clear hnx k0 H0
  have H2a : Hd w0 _ (w1.alloc (.cells #[.int .i64 v.job, .int .i64 v.task, .int .i64 v.level] 37)) := H1.fol
  have hf := H2a.facts
  simp only [Nat.reduceAdd] at hf
  go_split_ands
  have H2 := H2a.drew

  have k1 := (show _ = some (Value.pointer (some ⟨l, 0, none⟩)) from (H2.k d).ce 0 rfl)
  have k2 := (show _ = some (Value.int .i64 v.level) from (H2.k w1.heap.size).ce 2 rfl)
  have hcl := lkCeiling (H2.k l) (by omega)
  obtain ⟨T, hT⟩ : ∃ T, topI m.co.ce = T := ⟨_, rfl⟩
  rw [hT] at hcl h1
  replace hT := Lib.hid hT
  go_wp2_with fail
  refine wp_region_mix 10 [(0, true), (1, true), (2, true), (3, true), (4, true), (5, true), (6, true), (7, true), (8, true), (9, false)] (fun w' => w'.cell? ⟨d, 0, none⟩ = some (.pointer (some ⟨l, 0, none⟩)) ∧ w'.cell? ⟨w1.heap.size, 2, none⟩ = some (.int .i64 v.level)) (by kernel_rfl) (by kernel_rfl) (⟨k1, k2⟩) (fun _ _ d _ _ h => by cases d <;> exact h) ?_
  simp only [List.drop_succ_cons, List.drop_zero]
  iterate 9 (refine mix_head (o := _) (v := ?_) (by (simp only [List.getElem?_toArray, List.getElem?_cons_succ, List.getElem?_cons_zero]); rfl) (by rfl) (fun w' hS => ?_) ?_; rotate_left 1; (focus ((try dsimp only at hS); (try go_split_ands); go_simp; (try with_reducible rfl))); (try simp only [Act.put, List.setIfInBounds_toArray, List.set_cons_zero, List.set_cons_succ]))
  refine mix_mid (o := _) (by (simp only [List.getElem?_toArray, List.getElem?_cons_succ, List.getElem?_cons_zero]); rfl) ?_
  go_wp2_with fail
  refine hcl.mono ?_
  rintro e w2 ⟨rfl, rfl⟩
  clear hcl
  go_wp2_with fail
  refine mixQ_in ⟨k1, k2⟩ ?_
  refine mix_end ?_
  (try dsimp only)
  have hr := lkRunningNo (H2.k l) hj
  go_wp2_with fail
  refine hr.mono ?_
  rintro e w2 ⟨rfl, H3⟩
  clear hr
  have H4 : Hd w0 _ (w2.alloc (.cells #[.int .i64 0, .int .i64 0, .int .i64 0, .int .i64 0] 160)) := H3.fol
  have hf4 := H4.facts
  simp only [Nat.reduceAdd] at hf4
  go_split_ands
  go_wp2_with fail
  have HX : Hd w0 _ _ := H4
  refine bodyPost_ret (results_row_tmp rfl _ _ w.heap.size 37 #[.int .i64 v.job, .int .i64 v.task, .int .i64 v.level] (0, 0) _ (by rfl) (by exact ((Hd.fol HX : Hd w0 _ _).k w.heap.size).heap) Tryz.underlying37 rfl (by kernel_rfl)) rfl ⟨rfl, ?_⟩
  exact Hd.fin HX
set_option maxRecDepth 20000 in
set_option maxHeartbeats 4000000 in
theorem dpMayD (H : Hd w0 (DpL y tk S m R) w) (hq : m.wq.Ok) (hc : m.co.ce.length ≤ 5000) {v : WaitM} (hx : m.wq.next = some v) (h1 : ¬ v.level ≤ topI m.co.ce) {js : List StM} {j : StM} (hj : m.co.jobs = js ++ [j]) (hn : js.length ≤ 1000) (h2 : v.level ≤ j.act.level) :
    Calls Tryz.prog 60 #[.pointer (some ⟨y.d, 0, none⟩)] w fun e w' => e = .returned (.tuple #[waitV .zero, .bool false]) ∧ Hd w0 (DpL y tk S m R) w' := by
  obtain ⟨⟨l, t, a, u, ce⟩, hx⟩ : ∃ x, y.x = x := ⟨_, rfl⟩
  obtain ⟨d, c, q, x⟩ := y
  dsimp only at hx
  subst hx
  have H0 : Hd w0 _ (w.alloc (.cells #[.int .i64 0, .int .i64 0, .int .i64 0] 37)) := H.fol
  have k0 := (show _ = some (Value.pointer (some ⟨q, 0, none⟩)) from (H0.k d).ce 3 rfl)
  have hnx := wqNext (H0.k q) hq hx
  clear H
  go_enter Tryz.func60, Tryz.ntmps60
  go_wp2_with fail
  refine hnx.mono ?_
  rintro e w1 ⟨rfl, H1⟩
  clear hnx k0 H0
  have H2a : Hd w0 _ (w1.alloc (.cells #[.int .i64 v.job, .int .i64 v.task, .int .i64 v.level] 37)) := H1.fol
  have hf := H2a.facts
  simp only [Nat.reduceAdd] at hf
  go_split_ands
  have H2 := H2a.drew

  have k1 := (show _ = some (Value.pointer (some ⟨l, 0, none⟩)) from (H2.k d).ce 0 rfl)
  have k2 := (show _ = some (Value.int .i64 v.level) from (H2.k w1.heap.size).ce 2 rfl)
  have hcl := lkCeiling (H2.k l) (by omega)
  obtain ⟨T, hT⟩ : ∃ T, topI m.co.ce = T := ⟨_, rfl⟩
  rw [hT] at hcl h1
  replace hT := Lib.hid hT
  go_wp2_with fail
  refine wp_region_mix 10 [(0, true), (1, true), (2, true), (3, true), (4, true), (5, true), (6, true), (7, true), (8, true), (9, false)] (fun w' => w'.cell? ⟨d, 0, none⟩ = some (.pointer (some ⟨l, 0, none⟩)) ∧ w'.cell? ⟨w1.heap.size, 2, none⟩ = some (.int .i64 v.level)) (by kernel_rfl) (by kernel_rfl) (⟨k1, k2⟩) (fun _ _ d _ _ h => by cases d <;> exact h) ?_
  simp only [List.drop_succ_cons, List.drop_zero]
  iterate 9 (refine mix_head (o := _) (v := ?_) (by (simp only [List.getElem?_toArray, List.getElem?_cons_succ, List.getElem?_cons_zero]); rfl) (by rfl) (fun w' hS => ?_) ?_; rotate_left 1; (focus ((try dsimp only at hS); (try go_split_ands); go_simp; (try with_reducible rfl))); (try simp only [Act.put, List.setIfInBounds_toArray, List.set_cons_zero, List.set_cons_succ]))
  refine mix_mid (o := _) (by (simp only [List.getElem?_toArray, List.getElem?_cons_succ, List.getElem?_cons_zero]); rfl) ?_
  go_wp2_with fail
  refine hcl.mono ?_
  rintro e w2 ⟨rfl, rfl⟩
  clear hcl
  go_wp2_with fail
  refine mixQ_in ⟨k1, k2⟩ ?_
  refine mix_end ?_
  (try dsimp only)
  have hr := lkRunning (H2.k l) hj hn
  go_wp2_with fail
  refine hr.mono ?_
  rintro e w2 ⟨rfl, H3⟩
  clear hr
  have H4 : Hd w0 _ (w2.alloc (.cells #[.int .i64 j.act.job, .int .i64 j.act.task, .int .i64 j.act.level, .int .i64 j.act.at_] 160)) := H3.fol
  have hf4 := H4.facts
  simp only [Nat.reduceAdd] at hf4
  go_split_ands
  go_wp2_with fail
  have HX : Hd w0 _ _ := H4
  refine bodyPost_ret (results_row_tmp rfl _ _ w.heap.size 37 #[.int .i64 0, .int .i64 0, .int .i64 0] (0, 0) _ (by rfl) (by exact ((Hd.fol HX : Hd w0 _ _).k w.heap.size).heap) Tryz.underlying37 rfl (by kernel_rfl)) rfl ⟨rfl, ?_⟩
  exact Hd.fin HX
set_option maxRecDepth 20000 in
set_option maxHeartbeats 4000000 in
theorem dpMayE (H : Hd w0 (DpL y tk S m R) w) (hq : m.wq.Ok) (hc : m.co.ce.length ≤ 5000) {v : WaitM} (hx : m.wq.next = some v) (h1 : ¬ v.level ≤ topI m.co.ce) {js : List StM} {j : StM} (hj : m.co.jobs = js ++ [j]) (hn : js.length ≤ 1000) (h2 : ¬ v.level ≤ j.act.level) :
    Calls Tryz.prog 60 #[.pointer (some ⟨y.d, 0, none⟩)] w fun e w' => e = .returned (.tuple #[waitV v, .bool true]) ∧ Hd w0 (DpL y tk S m R) w' := by
  obtain ⟨⟨l, t, a, u, ce⟩, hx⟩ : ∃ x, y.x = x := ⟨_, rfl⟩
  obtain ⟨d, c, q, x⟩ := y
  dsimp only at hx
  subst hx
  have H0 : Hd w0 _ (w.alloc (.cells #[.int .i64 0, .int .i64 0, .int .i64 0] 37)) := H.fol
  have k0 := (show _ = some (Value.pointer (some ⟨q, 0, none⟩)) from (H0.k d).ce 3 rfl)
  have hnx := wqNext (H0.k q) hq hx
  clear H
  go_enter Tryz.func60, Tryz.ntmps60
  go_wp2_with fail
  refine hnx.mono ?_
  rintro e w1 ⟨rfl, H1⟩
  clear hnx k0 H0
  have H2a : Hd w0 _ (w1.alloc (.cells #[.int .i64 v.job, .int .i64 v.task, .int .i64 v.level] 37)) := H1.fol
  have hf := H2a.facts
  simp only [Nat.reduceAdd] at hf
  go_split_ands
  have H2 := H2a.drew

  have k1 := (show _ = some (Value.pointer (some ⟨l, 0, none⟩)) from (H2.k d).ce 0 rfl)
  have k2 := (show _ = some (Value.int .i64 v.level) from (H2.k w1.heap.size).ce 2 rfl)
  have hcl := lkCeiling (H2.k l) (by omega)
  obtain ⟨T, hT⟩ : ∃ T, topI m.co.ce = T := ⟨_, rfl⟩
  rw [hT] at hcl h1
  replace hT := Lib.hid hT
  go_wp2_with fail
  refine wp_region_mix 10 [(0, true), (1, true), (2, true), (3, true), (4, true), (5, true), (6, true), (7, true), (8, true), (9, false)] (fun w' => w'.cell? ⟨d, 0, none⟩ = some (.pointer (some ⟨l, 0, none⟩)) ∧ w'.cell? ⟨w1.heap.size, 2, none⟩ = some (.int .i64 v.level)) (by kernel_rfl) (by kernel_rfl) (⟨k1, k2⟩) (fun _ _ d _ _ h => by cases d <;> exact h) ?_
  simp only [List.drop_succ_cons, List.drop_zero]
  iterate 9 (refine mix_head (o := _) (v := ?_) (by (simp only [List.getElem?_toArray, List.getElem?_cons_succ, List.getElem?_cons_zero]); rfl) (by rfl) (fun w' hS => ?_) ?_; rotate_left 1; (focus ((try dsimp only at hS); (try go_split_ands); go_simp; (try with_reducible rfl))); (try simp only [Act.put, List.setIfInBounds_toArray, List.set_cons_zero, List.set_cons_succ]))
  refine mix_mid (o := _) (by (simp only [List.getElem?_toArray, List.getElem?_cons_succ, List.getElem?_cons_zero]); rfl) ?_
  go_wp2_with fail
  refine hcl.mono ?_
  rintro e w2 ⟨rfl, rfl⟩
  clear hcl
  go_wp2_with fail
  refine mixQ_in ⟨k1, k2⟩ ?_
  refine mix_end ?_
  (try dsimp only)
  have hr := lkRunning (H2.k l) hj hn
  go_wp2_with fail
  refine hr.mono ?_
  rintro e w2 ⟨rfl, H3⟩
  clear hr
  have H4 : Hd w0 _ (w2.alloc (.cells #[.int .i64 j.act.job, .int .i64 j.act.task, .int .i64 j.act.level, .int .i64 j.act.at_] 160)) := H3.fol
  have hf4 := H4.facts
  simp only [Nat.reduceAdd] at hf4
  go_split_ands
  go_wp2_with fail
  have HX : Hd w0 _ _ := H4
  refine bodyPost_ret (results_row_tmp rfl _ _ w.heap.size 37 #[.int .i64 v.job, .int .i64 v.task, .int .i64 v.level] (0, 0) _ (by rfl) (by exact ((Hd.fol HX : Hd w0 _ _).k w.heap.size).heap) Tryz.underlying37 rfl (by kernel_rfl)) rfl ⟨rfl, ?_⟩
  exact Hd.fin HX
end
end Go.Proofs.YtogcikilphakmaaGreatDoor
