/-
  Merged texts of one proof: Lev2, StkLock, StkStarted.
-/
import Derived.BigQuiet
import Derived.Deep.QuietTactic
import Derived.Deep.RegionLaw
import Derived.IntWalk
import Derived.StillTailTactics
import Derived.Test.YtogcikilphakmaaGreatDoorG03
import Derived.Test.YtogcikilphakmaaGreatDoorG13
import Derived.Test.YtogcikilphakmaaGreatDoorRows

/-
  shelf.Levels of waiting jobs: NewLevels, Front, Take, Len.
-/
namespace Go.Proofs.YtogcikilphakmaaGreatDoor
open Go.RowKit Spl

def emptyQ (n : Nat) : List (List WaitM) := List.replicate n []
theorem infoQ : (Tryz.prog.info? 258).map (fun i => (i.zero, i.size, i.bytes)) = some (some (.agg #[.slice none 0 0, .int .i64 0]), 2, 32) := by kernel_rfl
theorem madeQ (n : Nat) : (madeCells #[.slice none 0 0, .int .i64 0] (n * 2)).toList = (List.replicate n (QR.mk (.slice none 0 0) 0 [])).flatMap QR.c := by
  induction n with
  | zero => simp [madeCells]
  | succ n ih =>
    rw [List.replicate_succ', List.flatMap_append, ← ih, Nat.add_mul, Nat.one_mul]
    simp only [madeCells, Array.toList_map, Array.toList_range]
    rw [List.range_succ, List.range_succ]
    simp [QR.c]
section
variable {w0 w : World} {R : List Pr} {b o T : Nat} {C : Array Value} {v : Value} {qs : List (List WaitM)}
theorem Lev.made {g n cap : Nat} (H : Hd w0 (SlcC 258 2 g n cap (madeCells #[.slice none 0 0, .int .i64 0] (n * 2)).toList :: R) w) : Hd w0 (Lev (.slice (some ⟨g, 0, none⟩) n n) (emptyQ n) :: R) w := by
  obtain ⟨_, _, _, sp, _, H1⟩ := H.slcC
  rw [madeQ] at H1
  refine Hd.into (g, List.replicate n (QR.mk (.slice none 0 0) 0 []), sp) (Hd.pack (L := [_, _, _]) (Hd.put ⟨by simp [emptyQ], by simp [emptyQ]⟩ ?_))
  have H3 : ∀ k, Hd w0 (all (List.zipWith lq (List.replicate k (QR.mk (.slice none 0 0) 0 [])) (emptyQ k)) :: cel g 258 (rowC (List.replicate n (QR.mk (.slice none 0 0) 0 [])) sp) :: R) w := by
    intro k
    induction k with
    | zero => exact Hd.all_nil H1
    | succ k ih =>
      refine Hd.pack (L := lq (QR.mk (.slice none 0 0) 0 []) [] :: List.zipWith lq (List.replicate k (QR.mk (.slice none 0 0) 0 [])) (emptyQ k)) ?_
      refine Hd.pack (L := [_, _]) (Hd.put ⟨rfl, Nat.le_refl _⟩ ?_)
      exact (ih.flat).slc_nil _ _
  exact (H3 n).b2

set_option maxHeartbeats 800000 in
theorem levNew (H : Hd w0 R w) : Calls Tryz.prog 77 #[.int .i64 32] w fun e w' => ∃ b v, e = .returned (.tuple #[.pointer (some ⟨b, 0, none⟩), .int .i64 0]) ∧ Hd w0 (cel b 180 #[v] :: Lev v (emptyQ 32) :: R) w' := by
  obtain ⟨i0, hi, hz0, hz1, hz2⟩ := info_parts infoQ
  go_enter Tryz.func77, Tryz.ntmps77
  go_wp2_with (at_make; refine wpList_make_slc rfl _ _ 178 rfl 258 i0 _ 2 Tryz.underlying178 hi hz0 hz1 rfl _ _ _ _ 32 32 rfl rfl rfl rfl (by omega) (by rw [hz2]; omega) (by unfold maxLen; omega) H ?_; intro w1 H1)
  go_ret2
  exact ⟨_, _, rfl, Hd.fol (Lev.made H1)⟩

set_option maxRecDepth 20000 in
set_option maxHeartbeats 1600000 in
theorem levFront {k : Nat} {x : WaitM} {l : List WaitM} (H : Hd w0 (cel b T C :: Lev v qs :: R) w) (hC : C[o]? = some v) (hn : ∀ l ∈ qs, l.length ≤ 10000) (h32 : qs.length ≤ 32) (hh : hiQ qs qs.length = k + 1) (hk : qs[k]? = some (x :: l)) :
    Calls Tryz.prog 126 #[.pointer (some ⟨b, o, none⟩)] w fun e w' =>
      e = .returned (.tuple #[.int .i64 ((k : Int) + 1), .agg #[.int .i64 x.job, .int .i64 x.task, .int .i64 x.level], .bool true]) ∧ Hd w0 (cel b T C :: Lev v qs :: R) w' := by
  have HA : Hd w0 _ (w.alloc (.cells #[.int .i64 0, .int .i64 0, .int .i64 0] 37)) := H.fol
  have hhi := levHi (o := o) ((HA.v v).k b) hC hn h32
  rw [hh] at hhi
  have hln := hn _ (List.mem_of_getElem? hk)
  have hlt := lt_of_get? hk
  have g3 : IntKind.i64.wrap (k : Int) = k := IntWalk.i64_in _ (by omega)
  have n0 : ¬ ((k : Int) < 0) := by omega
  have n1 : (k : Int) < qs.length := by omega
  have n2 : ¬ qs.length ≤ k := by omega
  have n3 : ((k : Int) + 1 == 0) = false := by simp; omega
  obtain ⟨g, rs, sp, r, hf, hr, hq, H1⟩ := Lev.opened ((HA.v v).k b).b2 hk
  obtain rfl := hf.v
  have hle := hq.le
  have c0 := (H1.k b).ce o hC
  have hE := Lib.hid (And.intro hf (And.intro hr (And.intro hq hn)))
  clear HA H h32 hf hr hq hn
  go_enter Tryz.func126, Tryz.ntmps126
  go_wp2_with fail
  refine hhi.mono ?_
  rintro e w1 ⟨rfl, n, rfl⟩
  clear hhi
  go_wp2_with fail
  refine (qFront_wait (C := rowC rs sp) (v := r.v) (o := k * 2) (f := r.f) (l := l) (gar := r.gar) (x := x) ((((Hd.fol H1 : Hd w0 _ _).v r.v).k g)) (rowC_at hE.out.2.1).1 (rowC_at hE.out.2.1).2 hE.out.2.2.1.gar (by simp at hle hln; omega) (by simp at hln; omega)).mono ?_
  rintro e w2 ⟨rfl, H2⟩
  have H3 : Hd w0 _ (w2.alloc (.cells #[.int .i64 x.job, .int .i64 x.task, .int .i64 x.level] 37)) := H2.fol
  have x0 := (H3.k w2.heap.size).rd 0
  have x1 := (H3.k w2.heap.size).rd 1
  have x2 := (H3.k w2.heap.size).rd 2
  simp only [List.getElem?_toArray, List.getElem?_cons_zero, List.getElem?_cons_succ] at x0 x1 x2
  have y0 := (H3.k w.heap.size).rd 0
  have y1 := (H3.k w.heap.size).rd 1
  have y2 := (H3.k w.heap.size).rd 2
  simp only [List.getElem?_toArray, List.getElem?_cons_zero, List.getElem?_cons_succ] at y0 y1 y2
  have z0 := (H3.k w.heap.size).fr 0
  have z1 := (H3.k w.heap.size).fr 1
  have z2 := (H3.k w.heap.size).fr 2
  go_wp2_with fail
  refine wp_region_still_tail 3 (by kernel_rfl) (by kernel_rfl) ?_
  simp only [List.take_succ_cons, List.take_zero, List.drop_succ_cons, List.drop_zero, World.drew_eq]
  (repeat still_step)
  refine wpStill_nil ?_
  go_wp2_with fail
  (try simp only [Exit.inBlock, Exit.then])
  refine bodyPost_ret (results_tmp_row_tmp rfl _ _ w.heap.size 37 #[.int .i64 x.job, .int .i64 x.task, .int .i64 x.level] (0, 0) _ rfl (by exact ((Hd.fol H3 : Hd w0 _ _).k w.heap.size).heap) Tryz.underlying37 rfl (by kernel_rfl)) rfl ⟨rfl, ?_⟩
  exact Hd.b2 (Lev.same (i := k) (l := x :: l) (r := r) (rs := rs) (sp := sp) (qs := qs) (R := cel b T C :: R) (Hd.fin H3) hk hE.out.1 hE.out.2.1 hE.out.2.2.1)

set_option maxRecDepth 20000 in
set_option maxHeartbeats 1600000 in
theorem levFrontNo (H : Hd w0 (cel b T C :: Lev v qs :: R) w) (hC : C[o]? = some v) (hn : ∀ l ∈ qs, l.length ≤ 10000) (h32 : qs.length ≤ 32) (hh : hiQ qs qs.length = 0) :
    Calls Tryz.prog 126 #[.pointer (some ⟨b, o, none⟩)] w fun e w' =>
      e = .returned (.tuple #[.int .i64 0, .agg #[.int .i64 0, .int .i64 0, .int .i64 0], .bool false]) ∧ Hd w0 (cel b T C :: Lev v qs :: R) w' := by
  have HA : Hd w0 _ (w.alloc (.cells #[.int .i64 0, .int .i64 0, .int .i64 0] 37)) := H.fol
  have hhi := levHi (o := o) ((HA.v v).k b) hC hn h32
  rw [hh] at hhi
  have H3 : Hd w0 _ ((w.alloc (.cells #[.int .i64 0, .int .i64 0, .int .i64 0] 37)).alloc (.cells #[.int .i64 0, .int .i64 0, .int .i64 0] 37)) := HA.fol
  have x0 := (H3.k (w.heap.size + 1)).rd 0
  have x1 := (H3.k (w.heap.size + 1)).rd 1
  have x2 := (H3.k (w.heap.size + 1)).rd 2
  simp only [List.getElem?_toArray, List.getElem?_cons_zero, List.getElem?_cons_succ] at x0 x1 x2
  have y0 := (H3.k w.heap.size).rd 0
  have y1 := (H3.k w.heap.size).rd 1
  have y2 := (H3.k w.heap.size).rd 2
  simp only [List.getElem?_toArray, List.getElem?_cons_zero, List.getElem?_cons_succ] at y0 y1 y2
  have z0 := (H3.k w.heap.size).fr 0
  have z1 := (H3.k w.heap.size).fr 1
  have z2 := (H3.k w.heap.size).fr 2
  replace HA := Lib.hid HA
  clear H h32 hn hC
  go_enter Tryz.func126, Tryz.ntmps126
  go_wp2_with fail
  refine hhi.mono ?_
  rintro e w1 ⟨rfl, n, rfl⟩
  clear hhi
  go_wp2_with fail
  refine wp_region_still_tail 2 (by kernel_rfl) (by kernel_rfl) ?_
  simp only [List.take_succ_cons, List.take_zero, List.drop_succ_cons, List.drop_zero, World.drew_eq]
  (repeat still_step)
  refine wpStill_nil ?_
  go_wp2_with fail
  (try simp only [Exit.inBlock, Exit.then])
  refine bodyPost_ret (results_tmp_row_tmp rfl _ _ w.heap.size 37 #[.int .i64 0, .int .i64 0, .int .i64 0] (0, 0) _ rfl (by exact ((Hd.fol HA.out : Hd w0 _ _).k w.heap.size).heap) Tryz.underlying37 rfl (by kernel_rfl)) rfl ⟨rfl, ?_⟩
  exact (Hd.fin HA.out)

set_option maxRecDepth 20000 in
set_option maxHeartbeats 1600000 in
theorem levTake {k : Nat} {x : WaitM} {l : List WaitM} (H : Hd w0 (cel b T C :: Lev v qs :: R) w) (hC : C[o]? = some v) (hn : ∀ l ∈ qs, l.length ≤ 10000) (h32 : qs.length ≤ 32) (hh : hiQ qs qs.length = k + 1) (hk : qs[k]? = some (x :: l)) :
    Calls Tryz.prog 96 #[.pointer (some ⟨b, o, none⟩)] w fun e w' =>
      e = .returned (.tuple #[.int .i64 ((k : Int) + 1), .agg #[.int .i64 x.job, .int .i64 x.task, .int .i64 x.level], .bool true]) ∧ Hd w0 (cel b T C :: Lev v (qs.set k l) :: R) w' := by
  have HA : Hd w0 _ (w.alloc (.cells #[.int .i64 0, .int .i64 0, .int .i64 0] 37)) := H.fol
  have hfr := levFront (o := o) ((HA.v v).k b) hC hn h32 hh hk
  have hln := hn _ (List.mem_of_getElem? hk)
  have hlt := lt_of_get? hk
  have g3 : IntKind.i64.wrap (k : Int) = k := IntWalk.i64_in _ (by omega)
  have n0 : ¬ ((k : Int) < 0) := by omega
  have n1 : (k : Int) < qs.length := by omega
  have n2 : ¬ qs.length ≤ k := by omega
  obtain ⟨g, hv⟩ := levForm H.b2
  have hE := Lib.hid hn
  clear HA H h32 hn
  go_enter Tryz.func96, Tryz.ntmps96
  go_wp2_with fail
  refine hfr.mono ?_
  rintro e w1 ⟨rfl, H1⟩
  clear hfr
  have H2 : Hd w0 _ (w1.alloc (.cells #[.int .i64 x.job, .int .i64 x.task, .int .i64 x.level] 37)) := H1.fol
  obtain ⟨g2, rs, sp, r, hf, hr, hq, H3⟩ := Lev.opened (H2.v v) hk
  obtain rfl := hf.v
  obtain rfl : g2 = g := by injection hv with h1 _ _; injection h1 with h1; injection h1
  have hle := hq.le
  have c0 := (H3.k b).ce o hC
  have hG := Lib.hid (And.intro hf (And.intro hr hq))
  clear H1 H2 hf hr hq hv
  go_wp2_with fail
  refine (qTake_wait (C := rowC rs sp) (v := r.v) (o := k * 2) (f := r.f) (l := l) (gar := r.gar) (x := x) ((((Hd.fol H3 : Hd w0 _ _).v r.v).k g2)) (rowC_at hG.out.2.1).1 (rowC_at hG.out.2.1).2 hG.out.2.2.gar (by simp at hle hln; omega) (by simp at hln; omega)).mono ?_
  rintro e w2 ⟨rfl, v2, f2, gar2, hg2, hf2, H4⟩
  rw [rowC_set hG.out.2.1 v2 f2 gar2] at H4
  have x0 := (H4.k w1.heap.size).rd 0
  have x1 := (H4.k w1.heap.size).rd 1
  have x2 := (H4.k w1.heap.size).rd 2
  simp only [List.getElem?_toArray, List.getElem?_cons_zero, List.getElem?_cons_succ] at x0 x1 x2
  have y0 := (H4.k w.heap.size).rd 0
  have y1 := (H4.k w.heap.size).rd 1
  have y2 := (H4.k w.heap.size).rd 2
  simp only [List.getElem?_toArray, List.getElem?_cons_zero, List.getElem?_cons_succ] at y0 y1 y2
  have z0 := (H4.k w.heap.size).fr 0
  have z1 := (H4.k w.heap.size).fr 1
  have z2 := (H4.k w.heap.size).fr 2
  go_wp2_with fail
  refine wp_region_mix0 [(0, true), (1, true), (2, true), (3, true), (4, false), (5, true)] (fun w' => w'.cell? ⟨w1.heap.size, 0, none⟩ = some (.int .i64 x.job) ∧ w'.cell? ⟨w1.heap.size, 1, none⟩ = some (.int .i64 x.task) ∧ w'.cell? ⟨w1.heap.size, 2, none⟩ = some (.int .i64 x.level)) (by kernel_rfl) (by kernel_rfl) (⟨x0, x1, x2⟩) (fun _ _ d _ _ h => by cases d <;> exact h) ?_
  iterate 4 (refine mix_head (o := _) (v := ?_) (by (simp only [List.getElem?_toArray, List.getElem?_cons_succ, List.getElem?_cons_zero]); rfl) (by rfl) (fun w' hS => ?_) ?_; rotate_left 1; (focus ((try dsimp only at hS); (try go_split_ands); go_simp; (try with_reducible rfl))); (try simp only [Act.put, List.setIfInBounds_toArray, List.set_cons_zero, List.set_cons_succ]))
  refine mix_mid (o := _) (by (simp only [List.getElem?_toArray, List.getElem?_cons_succ, List.getElem?_cons_zero]); rfl) ?_
  go_wp2_with fail
  refine mixQ_in ⟨by exact ((Hd.fol H4 : Hd w0 _ _).k w1.heap.size).ce 0 rfl, by exact ((Hd.fol H4 : Hd w0 _ _).k w1.heap.size).ce 1 rfl, by exact ((Hd.fol H4 : Hd w0 _ _).k w1.heap.size).ce 2 rfl⟩ ?_
  iterate 1 (refine mix_head (o := _) (v := ?_) (by (simp only [List.getElem?_toArray, List.getElem?_cons_succ, List.getElem?_cons_zero]); rfl) (by rfl) (fun w' hS => ?_) ?_; rotate_left 1; (focus ((try dsimp only at hS); (try go_split_ands); go_simp; (try with_reducible rfl))); (try simp only [Act.put, List.setIfInBounds_toArray, List.set_cons_zero, List.set_cons_succ]))
  refine mix_end ?_
  (try dsimp only)
  go_wp2_with fail
  (try simp only [Exit.inBlock, Exit.then])
  refine bodyPost_ret (results_tmp_row_tmp rfl _ _ w.heap.size 37 #[.int .i64 x.job, .int .i64 x.task, .int .i64 x.level] (0, 0) _ rfl (by exact ((Hd.fol H4 : Hd w0 _ _).k w.heap.size).heap) Tryz.underlying37 rfl (by kernel_rfl)) rfl ⟨rfl, ?_⟩
  exact Hd.b2 (Lev.shut (i := k) (l := x :: l) (l' := l) (r := r) (r' := ⟨v2, f2, gar2⟩) (rs := rs) (sp := sp) (qs := qs) (R := cel b T C :: R) (Hd.fin H4) hk hG.out.1 hG.out.2.1 ⟨hg2, hf2⟩)

set_option maxRecDepth 20000 in
set_option maxHeartbeats 1600000 in
theorem levTakeNo (H : Hd w0 (cel b T C :: Lev v qs :: R) w) (hC : C[o]? = some v) (hn : ∀ l ∈ qs, l.length ≤ 10000) (h32 : qs.length ≤ 32) (hh : hiQ qs qs.length = 0) :
    Calls Tryz.prog 96 #[.pointer (some ⟨b, o, none⟩)] w fun e w' =>
      e = .returned (.tuple #[.int .i64 0, .agg #[.int .i64 0, .int .i64 0, .int .i64 0], .bool false]) ∧ Hd w0 (cel b T C :: Lev v qs :: R) w' := by
  have HA : Hd w0 _ (w.alloc (.cells #[.int .i64 0, .int .i64 0, .int .i64 0] 37)) := H.fol
  have hfr := levFrontNo (o := o) ((HA.v v).k b) hC hn h32 hh
  clear HA H h32 hn
  go_enter Tryz.func96, Tryz.ntmps96
  go_wp2_with fail
  refine hfr.mono ?_
  rintro e w1 ⟨rfl, H1⟩
  clear hfr
  have H4 : Hd w0 _ (w1.alloc (.cells #[.int .i64 0, .int .i64 0, .int .i64 0] 37)) := H1.fol
  have x0 := (H4.k w1.heap.size).rd 0
  have x1 := (H4.k w1.heap.size).rd 1
  have x2 := (H4.k w1.heap.size).rd 2
  simp only [List.getElem?_toArray, List.getElem?_cons_zero, List.getElem?_cons_succ] at x0 x1 x2
  have y0 := (H4.k w.heap.size).rd 0
  have y1 := (H4.k w.heap.size).rd 1
  have y2 := (H4.k w.heap.size).rd 2
  simp only [List.getElem?_toArray, List.getElem?_cons_zero, List.getElem?_cons_succ] at y0 y1 y2
  have z0 := (H4.k w.heap.size).fr 0
  have z1 := (H4.k w.heap.size).fr 1
  have z2 := (H4.k w.heap.size).fr 2
  go_wp2_with fail
  refine wp_region_mix0 [(0, true), (1, true), (2, true), (3, true), (4, false), (5, true)] (fun w' => w'.cell? ⟨w1.heap.size, 0, none⟩ = some (.int .i64 0) ∧ w'.cell? ⟨w1.heap.size, 1, none⟩ = some (.int .i64 0) ∧ w'.cell? ⟨w1.heap.size, 2, none⟩ = some (.int .i64 0)) (by kernel_rfl) (by kernel_rfl) (⟨x0, x1, x2⟩) (fun _ _ d _ _ h => by cases d <;> exact h) ?_
  iterate 4 (refine mix_head (o := _) (v := ?_) (by (simp only [List.getElem?_toArray, List.getElem?_cons_succ, List.getElem?_cons_zero]); rfl) (by rfl) (fun w' hS => ?_) ?_; rotate_left 1; (focus ((try dsimp only at hS); (try go_split_ands); go_simp; (try with_reducible rfl))); (try simp only [Act.put, List.setIfInBounds_toArray, List.set_cons_zero, List.set_cons_succ]))
  refine mix_mid (o := _) (by (simp only [List.getElem?_toArray, List.getElem?_cons_succ, List.getElem?_cons_zero]); rfl) ?_
  go_wp2_with fail
  refine mixQ_in ⟨by exact ((Hd.fol H4 : Hd w0 _ _).k w1.heap.size).ce 0 rfl, by exact ((Hd.fol H4 : Hd w0 _ _).k w1.heap.size).ce 1 rfl, by exact ((Hd.fol H4 : Hd w0 _ _).k w1.heap.size).ce 2 rfl⟩ ?_
  iterate 1 (refine mix_head (o := _) (v := ?_) (by (simp only [List.getElem?_toArray, List.getElem?_cons_succ, List.getElem?_cons_zero]); rfl) (by rfl) (fun w' hS => ?_) ?_; rotate_left 1; (focus ((try dsimp only at hS); (try go_split_ands); go_simp; (try with_reducible rfl))); (try simp only [Act.put, List.setIfInBounds_toArray, List.set_cons_zero, List.set_cons_succ]))
  refine mix_end ?_
  (try dsimp only)
  go_wp2_with fail
  (try simp only [Exit.inBlock, Exit.then])
  refine bodyPost_ret (results_tmp_row_tmp rfl _ _ w.heap.size 37 #[.int .i64 0, .int .i64 0, .int .i64 0] (0, 0) _ rfl (by exact ((Hd.fol H4 : Hd w0 _ _).k w.heap.size).heap) Tryz.underlying37 rfl (by kernel_rfl)) rfl ⟨rfl, ?_⟩
  exact (Hd.fin H4)

def lenQ (qs : List (List WaitM)) (k : Nat) : Nat := ((qs.take k).map List.length).sum
theorem lenQ_succ {k : Nat} {l : List WaitM} (h : qs[k]? = some l) : lenQ qs (k + 1) = lenQ qs k + l.length := by
  simp [lenQ, List.take_add_one, h]
theorem lenQ_le {qs : List (List WaitM)} (hn : ∀ l ∈ qs, l.length ≤ 10000) : ∀ k, k ≤ qs.length → lenQ qs k ≤ k * 10000 := by
  intro k
  induction k with
  | zero => intro _; simp [lenQ]
  | succ k ih =>
    intro hk
    have hl : qs[k]? = some (qs[k]'(by omega)) := List.getElem?_eq_getElem _
    have := hn _ (List.mem_of_getElem? hl)
    have := ih (by omega)
    rw [lenQ_succ hl]
    omega
set_option maxHeartbeats 800000 in
theorem levLen (H : Hd w0 (cel b T C :: Lev v qs :: R) w) (hC : C[o]? = some v) (hn : ∀ l ∈ qs, l.length ≤ 10000) (h32 : qs.length ≤ 32) :
    Calls Tryz.prog 104 #[.pointer (some ⟨b, o, none⟩)] w fun e w' =>
      e = .returned (.int .i64 (lenQ qs qs.length)) ∧ ∃ n, w' = w.drewN n := by
  obtain ⟨g, rfl⟩ := levForm H.b2
  have c0 := (H.rd o).trans hC
  have hO := Lib.hid (And.intro H (And.intro hC hn))
  clear H hC hn
  go_enter Tryz.func104, Tryz.ntmps104
  go_wp2
  go_loopw [3, 10] (fun s i wr => ∃ k n : Nat, k ≤ qs.length ∧ i = .int .i64 k ∧ s = .int .i64 (lenQ qs k) ∧ wr = w.drewN n) (fun _ i _ => qs.length - (intOf i).toNat)
  case atStart => exact ⟨0, 0, Nat.zero_le _, rfl, rfl, rfl⟩
  case round =>
    obtain ⟨k, n, hk, rfl, rfl, rfl⟩ := hrel
    by_cases hlt : k < qs.length
    · obtain ⟨l, hl⟩ : ∃ l, qs[k]? = some l := ⟨qs[k]'(by omega), List.getElem?_eq_getElem _⟩
      have hln := hO.out.2.2 l (List.mem_of_getElem? hl)
      have hsum := lenQ_le hO.out.2.2 k hk
      obtain ⟨g2, rs, sp, r, hf, hr, hq, H1⟩ := Lev.opened hO.out.1.b2 hl
      have hle := hq.le
      obtain rfl : g = g2 := by have := hf.v; injection this with h1 _ _; injection h1 with h1; injection h1
      have hr2 := rowC_at (sp := sp) hr
      have hcall := qLen_wait (C := rowC rs sp) (v := r.v) (o := k * 2) (f := r.f) (l := l) (gar := r.gar) (((Hd.fol H1 : Hd w0 _ (w.drewN n)).v r.v).k g) hr2.1 hr2.2 (by omega) (by omega)
      have g4 : IntKind.i64.wrap ((lenQ qs k : Int) + (l.length : Int)) = (lenQ qs k : Int) + l.length := IntWalk.i64_in _ (by omega)
      have g5 : IntKind.i64.wrap ((k : Int) + 1) = (k : Int) + 1 := IntWalk.i64_in _ (by omega)
      have n0 : ¬ ((k : Int) < 0) := by omega
      have n1 : (k : Int) < qs.length := by omega
      have n2 : ¬ qs.length ≤ k := by omega
      have hs := Lib.hid (lenQ_succ hl)
      clear H1 hr hr2 hq hf hle hln hl hsum
      go_wp2_with fail
      refine hcall.mono ?_
      rintro e w' ⟨rfl, n', rfl⟩
      clear hcall
      go_wp2_with fail
      go_roundw
      case rel => exact ⟨k + 1, _, by omega, rfl, by rw [hs.out]; rfl, rfl⟩
      case measure => simp [intOf]; omega
    · obtain rfl : k = qs.length := by omega
      go_wp2
      go_ret
      exact ⟨rfl, n, rfl⟩
end
end Go.Proofs.YtogcikilphakmaaGreatDoor

/-
  shelf.Stack of lock over the separation logic. Every stack, every element.
-/
namespace Go.Proofs.YtogcikilphakmaaGreatDoor
open Go.RowKit Spl

theorem stkInfo_lock : (Tryz.prog.info? 296).map (fun i => (i.zero, i.size, i.bytes)) = some (some (.agg #[.int .i64 0, .int .i64 0]), 2, 16) := by kernel_rfl
section
variable {w0 w : World} {R : List Pr} {s o T : Nat} {C : Array Value} {v : Value} {l : List LockM}

/-- Len -/
theorem stkLen_lock (H : Hd w0 (cel s T C :: SlE 296 v l :: R) w) (hC : C[o]? = some v) :
    Calls Tryz.prog 185 #[.pointer (some ⟨s, o, none⟩)] w fun e w' => e = .returned (.int .i64 l.length) ∧ w = w' := by
  have c0 : w.cell? ⟨s, o, none⟩ = some v := (H.rd o).trans hC
  obtain ⟨a, cap, rfl, _, _, _, _⟩ := H.b2.slc_form
  clear H hC
  go_enter Tryz.func185, Tryz.ntmps185
  go_wp2
  go_ret
  exact ⟨rfl, rfl⟩

set_option maxHeartbeats 1600000 in
/-- Push -/
theorem stkPush_lock (H : Hd w0 (cel s T C :: SlE 296 v l :: R) w) (hC : C[o]? = some v) (hn : l.length ≤ 100000) (x : LockM) :
    Calls Tryz.prog 177 #[.pointer (some ⟨s, o, none⟩), .agg #[.int .i64 x.res, .int .i64 x.units]] w fun e w' =>
      e = .returned (.tuple #[]) ∧ ∃ v', Hd w0 (cel s T (C.setIfInBounds o v') :: SlE 296 v' (l ++ [x]) :: R) w' := by
  obtain ⟨i0, hi, hz0, hz1, hz2⟩ := info_parts stkInfo_lock
  obtain ⟨a, cap, rfl, _, _, _, _⟩ := H.b2.slc_form
  have HB := H.alloc (.cells #[.int .i64 x.res, .int .i64 x.units] 296)
  have c0 := HB.b2.rd o
  rw [hC] at c0
  have HP0 : Hd w0 _ (((w.alloc (.cells #[.int .i64 x.res, .int .i64 x.units] 296)).alloc (.cells #[.int .i64 x.res, .int .i64 x.units] 296)).drew) := H.fol
  have HP := HP0.b4
  have g0 := HP.b4.rd o
  have k0 := HP.b4.fr o
  rw [hC] at g0
  have hnews := cel_news HP.b2
  have hS : ∀ {v' : Value} {L : List Pr} {w : World}, Hd w0 (Slc 296 2 v' (l.length + 1) (flat l ++ [.int .i64 x.res, .int .i64 x.units]) :: L) w → Hd w0 (SlE 296 v' (l ++ [x]) :: L) w := by
    intro v' L w h
    have e1 : (l ++ [x]).length = l.length + 1 := by simp
    have e2 : flat (l ++ [x]) = flat l ++ [.int .i64 x.res, .int .i64 x.units] := by rw [flat_append, flat_one]; rfl
    unfold SlE
    rw [e1, e2]
    exact h
  clear H
  go_enter Tryz.func177, Tryz.ntmps177
  go_wp2_with fail
  go_region_law (first | ((refine step_append_slc rfl _ _ 234 rfl 296 i0 _ 2 16 Tryz.underlying234 hi hz0 hz1 hz2 rfl _ _ _ rfl HP ⟨_, 0, none⟩ 1 1 _ rfl rfl hnews (Enc.one x) (by unfold maxLen; omega) (by omega) ?_); intro v' w2 H4; obtain ⟨a', cap', rfl, _, _, _, _⟩ := H4.slc_form; have d1 := H4.b4.rd o; have f6 := H4.b4.fr o; rw [hC] at d1))
  all_goals
    have HF := hS ((H4.b4.set o (.slice a' (l.length + 1) cap')).b2)
    go_wp2_with fail
    go_end0
    exact ⟨rfl, .slice a' (l.length + 1) cap', HF.re⟩

/-- At, where there is an element -/
theorem stkAt_lock (H : Hd w0 (cel s T C :: SlE 296 v l :: R) w) (hC : C[o]? = some v) (hn : l.length ≤ 100000) (i : Nat) (x : LockM) (hx : l[i]? = some x) :
    Calls Tryz.prog 191 #[.pointer (some ⟨s, o, none⟩), .int .i64 i] w fun e w' => e = .returned (.tuple #[.agg #[.int .i64 x.res, .int .i64 x.units], .bool true]) ∧ Hd w0 (cel s T C :: SlE 296 v l :: R) w' := by
  have HA : Hd w0 _ (w.alloc (.cells #[.int .i64 0, .int .i64 0] 296)) := H.fol
  have hi := lt_of_get? hx
  obtain ⟨g, cap, rfl, H2⟩ := HA.b3.slc_at (by omega)
  have c0 := HA.b2.rd o
  rw [hC] at c0
  have c1 : (w.alloc (.cells #[.int .i64 0, .int .i64 0] 296)).cell? ⟨g, i * 2, none⟩ = some (.int .i64 x.res) := H2.slcC_rd (flat_at hx (j := 0) (u := .int .i64 x.res) rfl)
  have c2 : (w.alloc (.cells #[.int .i64 0, .int .i64 0] 296)).cell? ⟨g, i * 2 + 1, none⟩ = some (.int .i64 x.units) := H2.slcC_rd (flat_at hx (j := 1) (u := .int .i64 x.units) rfl)
  have HB := (H.alloc (.cells #[.int .i64 x.res, .int .i64 x.units] 296)).tail
  clear H2 hx hC H HA
  go_enter Tryz.func191, Tryz.ntmps191
  go_wp2
  (try simp only [Exit.inBlock, Exit.then])
  refine bodyPost_ret (v := .tuple #[.agg #[.int .i64 x.res, .int .i64 x.units], .bool true]) (by simp [results, Tryz.results191, go_sem]) rfl ⟨rfl, HB⟩
/-- .. where there is none -/
theorem stkAtNo_lock (H : Hd w0 (cel s T C :: SlE 296 v l :: R) w) (hC : C[o]? = some v) (i : Int) (h : i < 0 ∨ l.length ≤ i) :
    Calls Tryz.prog 191 #[.pointer (some ⟨s, o, none⟩), .int .i64 i] w fun e w' => e = .returned (.tuple #[.agg #[.int .i64 0, .int .i64 0], .bool false]) ∧ Hd w0 (cel s T C :: SlE 296 v l :: R) w' := by
  have HA := ((H.alloc (.cells #[.int .i64 0, .int .i64 0] 296)).alloc (.cells #[.int .i64 0, .int .i64 0] 296)).tail.tail
  have c0 := (H.alloc (.cells #[.int .i64 0, .int .i64 0] 296)).b2.rd o
  rw [hC] at c0
  obtain ⟨a, cap, rfl, _, _, _, _⟩ := H.b2.slc_form
  clear H hC
  rcases h with h | h
  · go_enter Tryz.func191, Tryz.ntmps191
    go_wp2
    (try simp only [Exit.inBlock, Exit.then])
    refine bodyPost_ret (v := .tuple #[.agg #[.int .i64 0, .int .i64 0], .bool false]) (by simp [results, Tryz.results191, go_sem]) rfl ⟨rfl, HA⟩
  · have h0 : ¬ i < 0 := by omega
    go_enter Tryz.func191, Tryz.ntmps191
    go_wp2
    (try simp only [Exit.inBlock, Exit.then])
    refine bodyPost_ret (v := .tuple #[.agg #[.int .i64 0, .int .i64 0], .bool false]) (by simp [results, Tryz.results191, go_sem]) rfl ⟨rfl, HA⟩
end
end Go.Proofs.YtogcikilphakmaaGreatDoor

/-
  shelf.Stack of started over the separation logic. Every stack, every element.
-/
namespace Go.Proofs.YtogcikilphakmaaGreatDoor
open Go.RowKit Spl

theorem stkInfo_started : (Tryz.prog.info? 158).map (fun i => (i.zero, i.size, i.bytes)) = some (some (.pointer none), 1, 8) := by kernel_rfl
section
variable {w0 w : World} {R : List Pr} {s o T : Nat} {C : Array Value} {v : Value} {l : List Ptr}

/-- Len -/
theorem stkLen_started (H : Hd w0 (cel s T C :: SlE 158 v l :: R) w) (hC : C[o]? = some v) :
    Calls Tryz.prog 103 #[.pointer (some ⟨s, o, none⟩)] w fun e w' => e = .returned (.int .i64 l.length) ∧ w = w' := by
  have c0 : w.cell? ⟨s, o, none⟩ = some v := (H.rd o).trans hC
  obtain ⟨a, cap, rfl, _, _, _, _⟩ := H.b2.slc_form
  clear H hC
  go_enter Tryz.func103, Tryz.ntmps103
  go_wp2
  go_ret
  exact ⟨rfl, rfl⟩

/-- Push -/
theorem stkPush_started (H : Hd w0 (cel s T C :: SlE 158 v l :: R) w) (hC : C[o]? = some v) (hn : l.length ≤ 100000) (x : Ptr) :
    Calls Tryz.prog 98 #[.pointer (some ⟨s, o, none⟩), .pointer (some ⟨x.b, 0, none⟩)] w fun e w' =>
      e = .returned (.tuple #[]) ∧ ∃ v', Hd w0 (cel s T (C.setIfInBounds o v') :: SlE 158 v' (l ++ [x]) :: R) w' := by
  have c0 : w.cell? ⟨s, o, none⟩ = some v := (H.rd o).trans hC
  obtain ⟨i0, hi, hz0, hz1, hz2⟩ := info_parts stkInfo_started
  have H2 := (H.alloc (.cells #[.pointer (some ⟨x.b, 0, none⟩)] 158)).b3
  have hS : ∀ {v' : Value} {L : List Pr} {w : World}, Hd w0 (Slc 158 1 v' (l.length + 1) (flat l ++ [.pointer (some ⟨x.b, 0, none⟩)]) :: L) w → Hd w0 (SlE 158 v' (l ++ [x]) :: L) w := by
    intro v' L w h
    have e1 : (l ++ [x]).length = l.length + 1 := by simp
    have e2 : flat (l ++ [x]) = flat l ++ [.pointer (some ⟨x.b, 0, none⟩)] := by rw [flat_append, flat_one]; rfl
    unfold SlE
    rw [e1, e2]
    exact h
  go_enter Tryz.func98, Tryz.ntmps98
  go_wp2_with (at_builtin; refine wpList_append_slc rfl _ _ 90 rfl 158 i0 _ 1 8 Tryz.underlying90 hi hz0 hz1 hz2 rfl v _ _ rfl H2 ⟨w.heap.size, 0, none⟩ 1 1 [.pointer (some ⟨x.b, 0, none⟩)] rfl rfl (cell_one_new _ _ _) (by simp [Value.oneCell']) (by unfold maxLen; omega) (by omega) ?_; intro v' w1 H3; obtain ⟨a', cap', rfl, _, _, _, _⟩ := H3.slc_form; have c1 := H3.b3.rd; have f1 := H3.b3.fr)
  go_end0
  exact ⟨rfl, _, (hS ((H3.b3.set o _).b3.tail.b2)).b2⟩

/-- At, where there is an element -/
theorem stkAt_started (H : Hd w0 (cel s T C :: SlE 158 v l :: R) w) (hC : C[o]? = some v) (hn : l.length ≤ 100000) (i : Nat) (x : Ptr) (hx : l[i]? = some x) :
    Calls Tryz.prog 129 #[.pointer (some ⟨s, o, none⟩), .int .i64 i] w fun e w' => e = .returned (.tuple #[.pointer (some ⟨x.b, 0, none⟩), .bool true]) ∧ w = w' := by
  have c0 : w.cell? ⟨s, o, none⟩ = some v := (H.rd o).trans hC
  have hi := lt_of_get? hx
  obtain ⟨g, cap, rfl, H2⟩ := H.b2.slc_at (by omega)
  have c1 : w.cell? ⟨g, i, none⟩ = some (.pointer (some ⟨x.b, 0, none⟩)) := by
    have := H2.slcC_rd (flat_at hx (j := 0) (u := .pointer (some ⟨x.b, 0, none⟩)) rfl)
    simpa [Enc.size] using this
  clear H H2 hx hC
  go_enter Tryz.func129, Tryz.ntmps129
  go_wp2
  go_ret2
  exact ⟨rfl, rfl⟩
/-- .. where there is none -/
theorem stkAtNo_started (H : Hd w0 (cel s T C :: SlE 158 v l :: R) w) (hC : C[o]? = some v) (i : Int) (h : i < 0 ∨ l.length ≤ i) :
    Calls Tryz.prog 129 #[.pointer (some ⟨s, o, none⟩), .int .i64 i] w fun e w' => e = .returned (.tuple #[.pointer none, .bool false]) ∧ w = w' := by
  have c0 : w.cell? ⟨s, o, none⟩ = some v := (H.rd o).trans hC
  obtain ⟨a, cap, rfl, _, _, _, _⟩ := H.b2.slc_form
  clear H hC
  rcases h with h | h
  · go_enter Tryz.func129, Tryz.ntmps129
    go_wp2
    go_ret2
    exact ⟨rfl, rfl⟩
  · have h0 : ¬ i < 0 := by omega
    go_enter Tryz.func129, Tryz.ntmps129
    go_wp2
    go_ret2
    exact ⟨rfl, rfl⟩

/-- Top, where there is an element -/
theorem stkTop_started {x : Ptr} (H : Hd w0 (cel s T C :: SlE 158 v (l ++ [x]) :: R) w) (hC : C[o]? = some v) (hn : l.length < 100000) :
    Calls Tryz.prog 99 #[.pointer (some ⟨s, o, none⟩)] w fun e w' => e = .returned (.tuple #[.pointer (some ⟨x.b, 0, none⟩), .bool true]) ∧ w = w' := by
  have hlen : (l ++ [x]).length = l.length + 1 := by simp
  have hat := stkAt_started H hC (by omega) l.length x (by simp)
  have c0 := (H.rd o).trans hC
  obtain ⟨g, cap, rfl, H2⟩ := H.b2.slc_at (by omega)
  rw [hlen] at c0
  clear H H2 hC hlen
  go_enter Tryz.func99, Tryz.ntmps99
  go_wp2_with fail
  refine hat.mono ?_
  rintro e w' ⟨rfl, rfl⟩
  go_wp2_with fail
  go_ret2
  exact ⟨rfl, rfl⟩
/-- .. where there is none -/
theorem stkTopNo_started (H : Hd w0 (cel s T C :: SlE 158 v ([] : List Ptr) :: R) w) (hC : C[o]? = some v) :
    Calls Tryz.prog 99 #[.pointer (some ⟨s, o, none⟩)] w fun e w' => e = .returned (.tuple #[.pointer none, .bool false]) ∧ w = w' := by
  have hat := stkAtNo_started H hC (-1) (.inl (by decide))
  have c0 := (H.rd o).trans hC
  obtain ⟨a, cap, rfl, _, _, _, _⟩ := H.b2.slc_form
  clear H hC
  go_enter Tryz.func99, Tryz.ntmps99
  go_wp2_with fail
  refine hat.mono ?_
  rintro e w' ⟨rfl, rfl⟩
  go_wp2_with fail
  go_ret2
  exact ⟨rfl, rfl⟩

set_option maxRecDepth 20000 in
set_option maxHeartbeats 800000 in
/-- Pop, where there is an element -/
theorem stkPop_started {x : Ptr} (H : Hd w0 (cel s T C :: SlE 158 v (l ++ [x]) :: R) w) (hC : C[o]? = some v) (hn : l.length < 100000) :
    Calls Tryz.prog 169 #[.pointer (some ⟨s, o, none⟩)] w fun e w' => e = .returned (.tuple #[.pointer (some ⟨x.b, 0, none⟩), .bool true]) ∧ ∃ v', Hd w0 (cel s T (C.setIfInBounds o v') :: SlE 158 v' l :: R) w' := by
  have hlen : (l ++ [x]).length = l.length + 1 := by simp
  have htop := stkTop_started H hC hn
  have c0 := (H.rd o).trans hC
  have f0 := H.fr o
  obtain ⟨g, cap, rfl, H2⟩ := H.b2.slc_at (by omega)
  have hcap := H2.slcC.2.1
  have hcm := H2.slcC.2.2.1
  rw [hlen] at c0 hcap
  have cg : w.cell? ⟨g, l.length, none⟩ = some (.pointer (some ⟨x.b, 0, none⟩)) := by
    have := H2.slcC_rd (flat_at (l := l ++ [x]) (k := l.length) (x := x) (by simp) (j := 0) (u := .pointer (some ⟨x.b, 0, none⟩)) rfl)
    simpa [Enc.size] using this
  have fg := H2.slcC_fr l.length
  have HS := H2.slcC_set (j := l.length) (by rw [flat_len, hlen]; simp [Enc.size]) (.pointer none)
  have HS2 := HS.slcC_cut (k := l.length) (c := cap) (by omega) (by omega) (Nat.le_refl _)
  have e1 : ((flat (l ++ [x])).set l.length (.pointer none)).take (l.length * Enc.size Ptr) = flat l := by
    rw [List.take_set_of_le (by simp [Enc.size]), flat_take, List.take_left' rfl]
  rw [e1] at HS2
  have d0 := (HS2.b2.rd o).trans hC
  have k0 := HS2.b2.fr o
  rw [hlen] at d0
  have HF := (HS2.b2.set o (.slice (some ⟨g, 0, none⟩) l.length cap)).b2.slc_mk.b2
  clear hcm
  have hw : IntKind.i64.wrap (l.length : Int) = l.length := IntWalk.i64_in _ (by omega)
  have hlt : (l.length : Int) < (l.length : Int) + 1 := by omega
  have hlc : l.length ≤ cap := by omega
  clear H H2 HS HS2 hC hlen e1
  go_enter Tryz.func169, Tryz.ntmps169
  go_wp2_with fail
  refine htop.mono ?_
  rintro e w' ⟨rfl, rfl⟩
  go_wp2_with fail
  refine wp_region_still_tail 12 (by kernel_rfl) (by kernel_rfl) ?_
  simp only [List.take_succ_cons, List.take_zero, List.drop_succ_cons, List.drop_zero, World.drew_eq]
  (repeat still_step)
  refine wpStill_nil ?_
  go_wp2_with fail
  refine wp_region_still_tail 14 (by kernel_rfl) (by kernel_rfl) ?_
  simp only [List.take_succ_cons, List.take_zero, List.drop_succ_cons, List.drop_zero, World.drew_eq]
  (repeat still_step)
  refine wpStill_nil ?_
  go_wp2_with fail
  go_ret2
  exact ⟨rfl, _, HF.drew.drew⟩
end
end Go.Proofs.YtogcikilphakmaaGreatDoor
