/-
  Merged texts of one proof: Lev2, QueueM, InvQ.
-/
import Derived.Test.YtogcikilphakmaaGreatDoorG19

/-
  shelf.Levels of waiting jobs: NewLevels, Front, Take, Len.
-/
namespace Go.Proofs.YtogcikilphakmaaGreatDoor
open Go.RowKit Spl

def emptyQ (n : Nat) : List (List WaitM) := List.replicate n []
theorem infoQ : (Tryz.prog.info? 258).map (fun i => (i.zero, i.size, i.bytes)) = some (some (.agg #[.slice none 0 0, .int .i64 0]), 2, 32) := by kernel_rfl
theorem madeQ (n : Nat) : (madeCells #[.slice none 0 0, .int .i64 0] (n * 2)).toList = (List.replicate n (QR.mk (.slice none 0 0) 0 [])).flatMap QR.c := by
  induction n with
  | zero => simp [madeCells]
  | succ n ih =>
    rw [List.replicate_succ', List.flatMap_append, ← ih, Nat.add_mul, Nat.one_mul]
    simp only [madeCells, Array.toList_map, Array.toList_range]
    rw [List.range_succ, List.range_succ]
    simp [QR.c]
section
variable {w0 w : World} {R : List Pr} {b o T : Nat} {C : Array Value} {v : Value} {qs : List (List WaitM)}
theorem Lev.made {g n cap : Nat} (H : Hd w0 (SlcC 258 2 g n cap (madeCells #[.slice none 0 0, .int .i64 0] (n * 2)).toList :: R) w) : Hd w0 (Lev (.slice (some ⟨g, 0, none⟩) n n) (emptyQ n) :: R) w := by
  obtain ⟨_, _, _, sp, _, H1⟩ := H.slcC
  rw [madeQ] at H1
  refine Hd.into (g, List.replicate n (QR.mk (.slice none 0 0) 0 []), sp) (Hd.pack (L := [_, _, _]) (Hd.put ⟨by simp [emptyQ], by simp [emptyQ]⟩ ?_))
  have H3 : ∀ k, Hd w0 (all (List.zipWith lq (List.replicate k (QR.mk (.slice none 0 0) 0 [])) (emptyQ k)) :: cel g 258 (rowC (List.replicate n (QR.mk (.slice none 0 0) 0 [])) sp) :: R) w := by
    intro k
    induction k with
    | zero => exact Hd.all_nil H1
    | succ k ih =>
      refine Hd.pack (L := lq (QR.mk (.slice none 0 0) 0 []) [] :: List.zipWith lq (List.replicate k (QR.mk (.slice none 0 0) 0 [])) (emptyQ k)) ?_
      refine Hd.pack (L := [_, _]) (Hd.put ⟨rfl, Nat.le_refl _⟩ ?_)
      exact (ih.flat).slc_nil _ _
  exact (H3 n).b2

set_option maxHeartbeats 800000 in
theorem levNew (H : Hd w0 R w) : Calls Tryz.prog 77 #[.int .i64 32] w fun e w' => ∃ b v, e = .returned (.tuple #[.pointer (some ⟨b, 0, none⟩), .int .i64 0]) ∧ Hd w0 (cel b 180 #[v] :: Lev v (emptyQ 32) :: R) w' := by
  obtain ⟨i0, hi, hz0, hz1, hz2⟩ := info_parts infoQ
  go_enter Tryz.func77, Tryz.ntmps77
  go_wp2_with (at_make; refine wpList_make_slc rfl _ _ 178 rfl 258 i0 _ 2 Tryz.underlying178 hi hz0 hz1 rfl _ _ _ _ 32 32 rfl rfl rfl rfl (by omega) (by rw [hz2]; omega) (by unfold maxLen; omega) H ?_; intro w1 H1)
  go_ret2
  exact ⟨_, _, rfl, Hd.fol (Lev.made H1)⟩

set_option maxRecDepth 20000 in
set_option maxHeartbeats 1600000 in
theorem levFront {k : Nat} {x : WaitM} {l : List WaitM} (H : Hd w0 (cel b T C :: Lev v qs :: R) w) (hC : C[o]? = some v) (hn : ∀ l ∈ qs, l.length ≤ 10000) (h32 : qs.length ≤ 32) (hh : hiQ qs qs.length = k + 1) (hk : qs[k]? = some (x :: l)) :
    Calls Tryz.prog 126 #[.pointer (some ⟨b, o, none⟩)] w fun e w' =>
      e = .returned (.tuple #[.int .i64 ((k : Int) + 1), .agg #[.int .i64 x.job, .int .i64 x.task, .int .i64 x.level], .bool true]) ∧ Hd w0 (cel b T C :: Lev v qs :: R) w' := by
  have HA : Hd w0 _ (w.alloc (.cells #[.int .i64 0, .int .i64 0, .int .i64 0] 37)) := H.fol
  have hhi := levHi (o := o) ((HA.v v).k b) hC hn h32
  rw [hh] at hhi
  have hln := hn _ (List.mem_of_getElem? hk)
  have hlt := lt_of_get? hk
  have g3 : IntKind.i64.wrap (k : Int) = k := IntWalk.i64_in _ (by omega)
  have n0 : ¬ ((k : Int) < 0) := by omega
  have n1 : (k : Int) < qs.length := by omega
  have n2 : ¬ qs.length ≤ k := by omega
  have n3 : ((k : Int) + 1 == 0) = false := by simp; omega
  obtain ⟨g, rs, sp, r, hf, hr, hq, H1⟩ := Lev.opened ((HA.v v).k b).b2 hk
  obtain rfl := hf.v
  have hle := hq.le
  have c0 := (H1.k b).ce o hC
  have hE := Lib.hid (And.intro hf (And.intro hr (And.intro hq hn)))
  clear HA H h32 hf hr hq hn
  go_enter Tryz.func126, Tryz.ntmps126
  go_wp2_with fail
  refine hhi.mono ?_
  rintro e w1 ⟨rfl, n, rfl⟩
  clear hhi
  go_wp2_with fail
  refine (qFront_wait (C := rowC rs sp) (v := r.v) (o := k * 2) (f := r.f) (l := l) (gar := r.gar) (x := x) ((((Hd.fol H1 : Hd w0 _ _).v r.v).k g)) (rowC_at hE.out.2.1).1 (rowC_at hE.out.2.1).2 hE.out.2.2.1.gar (by simp at hle hln; omega) (by simp at hln; omega)).mono ?_
  rintro e w2 ⟨rfl, H2⟩
  have H3 : Hd w0 _ (w2.alloc (.cells #[.int .i64 x.job, .int .i64 x.task, .int .i64 x.level] 37)) := H2.fol
  have x0 := (H3.k w2.heap.size).rd 0
  have x1 := (H3.k w2.heap.size).rd 1
  have x2 := (H3.k w2.heap.size).rd 2
  simp only [List.getElem?_toArray, List.getElem?_cons_zero, List.getElem?_cons_succ] at x0 x1 x2
  have y0 := (H3.k w.heap.size).rd 0
  have y1 := (H3.k w.heap.size).rd 1
  have y2 := (H3.k w.heap.size).rd 2
  simp only [List.getElem?_toArray, List.getElem?_cons_zero, List.getElem?_cons_succ] at y0 y1 y2
  have z0 := (H3.k w.heap.size).fr 0
  have z1 := (H3.k w.heap.size).fr 1
  have z2 := (H3.k w.heap.size).fr 2
  go_wp2_with fail
  refine wp_region_still_tail 3 (by kernel_rfl) (by kernel_rfl) ?_
  simp only [List.take_succ_cons, List.take_zero, List.drop_succ_cons, List.drop_zero, World.drew_eq]
  (repeat still_step)
  refine wpStill_nil ?_
  go_wp2_with fail
  (try simp only [Exit.inBlock, Exit.then])
  refine bodyPost_ret (results_tmp_row_tmp rfl _ _ w.heap.size 37 #[.int .i64 x.job, .int .i64 x.task, .int .i64 x.level] (0, 0) _ rfl (by exact ((Hd.fol H3 : Hd w0 _ _).k w.heap.size).heap) Tryz.underlying37 rfl (by kernel_rfl)) rfl ⟨rfl, ?_⟩
  exact Hd.b2 (Lev.same (i := k) (l := x :: l) (r := r) (rs := rs) (sp := sp) (qs := qs) (R := cel b T C :: R) (Hd.fin H3) hk hE.out.1 hE.out.2.1 hE.out.2.2.1)

set_option maxRecDepth 20000 in
set_option maxHeartbeats 1600000 in
theorem levFrontNo (H : Hd w0 (cel b T C :: Lev v qs :: R) w) (hC : C[o]? = some v) (hn : ∀ l ∈ qs, l.length ≤ 10000) (h32 : qs.length ≤ 32) (hh : hiQ qs qs.length = 0) :
    Calls Tryz.prog 126 #[.pointer (some ⟨b, o, none⟩)] w fun e w' =>
      e = .returned (.tuple #[.int .i64 0, .agg #[.int .i64 0, .int .i64 0, .int .i64 0], .bool false]) ∧ Hd w0 (cel b T C :: Lev v qs :: R) w' := by
  have HA : Hd w0 _ (w.alloc (.cells #[.int .i64 0, .int .i64 0, .int .i64 0] 37)) := H.fol
  have hhi := levHi (o := o) ((HA.v v).k b) hC hn h32
  rw [hh] at hhi
  have H3 : Hd w0 _ ((w.alloc (.cells #[.int .i64 0, .int .i64 0, .int .i64 0] 37)).alloc (.cells #[.int .i64 0, .int .i64 0, .int .i64 0] 37)) := HA.fol
  have x0 := (H3.k (w.heap.size + 1)).rd 0
  have x1 := (H3.k (w.heap.size + 1)).rd 1
  have x2 := (H3.k (w.heap.size + 1)).rd 2
  simp only [List.getElem?_toArray, List.getElem?_cons_zero, List.getElem?_cons_succ] at x0 x1 x2
  have y0 := (H3.k w.heap.size).rd 0
  have y1 := (H3.k w.heap.size).rd 1
  have y2 := (H3.k w.heap.size).rd 2
  simp only [List.getElem?_toArray, List.getElem?_cons_zero, List.getElem?_cons_succ] at y0 y1 y2
  have z0 := (H3.k w.heap.size).fr 0
  have z1 := (H3.k w.heap.size).fr 1
  have z2 := (H3.k w.heap.size).fr 2
  replace HA := Lib.hid HA
  clear H h32 hn hC
  go_enter Tryz.func126, Tryz.ntmps126
  go_wp2_with fail
  refine hhi.mono ?_
  rintro e w1 ⟨rfl, n, rfl⟩
  clear hhi
  go_wp2_with fail
  refine wp_region_still_tail 2 (by kernel_rfl) (by kernel_rfl) ?_
  simp only [List.take_succ_cons, List.take_zero, List.drop_succ_cons, List.drop_zero, World.drew_eq]
  (repeat still_step)
  refine wpStill_nil ?_
  go_wp2_with fail
  (try simp only [Exit.inBlock, Exit.then])
  refine bodyPost_ret (results_tmp_row_tmp rfl _ _ w.heap.size 37 #[.int .i64 0, .int .i64 0, .int .i64 0] (0, 0) _ rfl (by exact ((Hd.fol HA.out : Hd w0 _ _).k w.heap.size).heap) Tryz.underlying37 rfl (by kernel_rfl)) rfl ⟨rfl, ?_⟩
  exact (Hd.fin HA.out)

set_option maxRecDepth 20000 in
set_option maxHeartbeats 1600000 in
theorem levTake {k : Nat} {x : WaitM} {l : List WaitM} (H : Hd w0 (cel b T C :: Lev v qs :: R) w) (hC : C[o]? = some v) (hn : ∀ l ∈ qs, l.length ≤ 10000) (h32 : qs.length ≤ 32) (hh : hiQ qs qs.length = k + 1) (hk : qs[k]? = some (x :: l)) :
    Calls Tryz.prog 96 #[.pointer (some ⟨b, o, none⟩)] w fun e w' =>
      e = .returned (.tuple #[.int .i64 ((k : Int) + 1), .agg #[.int .i64 x.job, .int .i64 x.task, .int .i64 x.level], .bool true]) ∧ Hd w0 (cel b T C :: Lev v (qs.set k l) :: R) w' := by
  have HA : Hd w0 _ (w.alloc (.cells #[.int .i64 0, .int .i64 0, .int .i64 0] 37)) := H.fol
  have hfr := levFront (o := o) ((HA.v v).k b) hC hn h32 hh hk
  have hln := hn _ (List.mem_of_getElem? hk)
  have hlt := lt_of_get? hk
  have g3 : IntKind.i64.wrap (k : Int) = k := IntWalk.i64_in _ (by omega)
  have n0 : ¬ ((k : Int) < 0) := by omega
  have n1 : (k : Int) < qs.length := by omega
  have n2 : ¬ qs.length ≤ k := by omega
  obtain ⟨g, hv⟩ := levForm H.b2
  have hE := Lib.hid hn
  clear HA H h32 hn
  go_enter Tryz.func96, Tryz.ntmps96
  go_wp2_with fail
  refine hfr.mono ?_
  rintro e w1 ⟨rfl, H1⟩
  clear hfr
  have H2 : Hd w0 _ (w1.alloc (.cells #[.int .i64 x.job, .int .i64 x.task, .int .i64 x.level] 37)) := H1.fol
  obtain ⟨g2, rs, sp, r, hf, hr, hq, H3⟩ := Lev.opened (H2.v v) hk
  obtain rfl := hf.v
  obtain rfl : g2 = g := by injection hv with h1 _ _; injection h1 with h1; injection h1
  have hle := hq.le
  have c0 := (H3.k b).ce o hC
  have hG := Lib.hid (And.intro hf (And.intro hr hq))
  clear H1 H2 hf hr hq hv
  go_wp2_with fail
  refine (qTake_wait (C := rowC rs sp) (v := r.v) (o := k * 2) (f := r.f) (l := l) (gar := r.gar) (x := x) ((((Hd.fol H3 : Hd w0 _ _).v r.v).k g2)) (rowC_at hG.out.2.1).1 (rowC_at hG.out.2.1).2 hG.out.2.2.gar (by simp at hle hln; omega) (by simp at hln; omega)).mono ?_
  rintro e w2 ⟨rfl, v2, f2, gar2, hg2, hf2, H4⟩
  rw [rowC_set hG.out.2.1 v2 f2 gar2] at H4
  have x0 := (H4.k w1.heap.size).rd 0
  have x1 := (H4.k w1.heap.size).rd 1
  have x2 := (H4.k w1.heap.size).rd 2
  simp only [List.getElem?_toArray, List.getElem?_cons_zero, List.getElem?_cons_succ] at x0 x1 x2
  have y0 := (H4.k w.heap.size).rd 0
  have y1 := (H4.k w.heap.size).rd 1
  have y2 := (H4.k w.heap.size).rd 2
  simp only [List.getElem?_toArray, List.getElem?_cons_zero, List.getElem?_cons_succ] at y0 y1 y2
  have z0 := (H4.k w.heap.size).fr 0
  have z1 := (H4.k w.heap.size).fr 1
  have z2 := (H4.k w.heap.size).fr 2
  go_wp2_with fail
  refine wp_region_mix0 [(0, true), (1, true), (2, true), (3, true), (4, false), (5, true)] (fun w' => w'.cell? ⟨w1.heap.size, 0, none⟩ = some (.int .i64 x.job) ∧ w'.cell? ⟨w1.heap.size, 1, none⟩ = some (.int .i64 x.task) ∧ w'.cell? ⟨w1.heap.size, 2, none⟩ = some (.int .i64 x.level)) (by kernel_rfl) (by kernel_rfl) (⟨x0, x1, x2⟩) (fun _ _ d _ _ h => by cases d <;> exact h) ?_
  iterate 4 (refine mix_head (o := _) (v := ?_) (by (simp only [List.getElem?_toArray, List.getElem?_cons_succ, List.getElem?_cons_zero]); rfl) (by rfl) (fun w' hS => ?_) ?_; rotate_left 1; (focus ((try dsimp only at hS); (try go_split_ands); go_simp; (try with_reducible rfl))); (try simp only [Act.put, List.setIfInBounds_toArray, List.set_cons_zero, List.set_cons_succ]))
  refine mix_mid (o := _) (by (simp only [List.getElem?_toArray, List.getElem?_cons_succ, List.getElem?_cons_zero]); rfl) ?_
  go_wp2_with fail
  refine mixQ_in ⟨by exact ((Hd.fol H4 : Hd w0 _ _).k w1.heap.size).ce 0 rfl, by exact ((Hd.fol H4 : Hd w0 _ _).k w1.heap.size).ce 1 rfl, by exact ((Hd.fol H4 : Hd w0 _ _).k w1.heap.size).ce 2 rfl⟩ ?_
  iterate 1 (refine mix_head (o := _) (v := ?_) (by (simp only [List.getElem?_toArray, List.getElem?_cons_succ, List.getElem?_cons_zero]); rfl) (by rfl) (fun w' hS => ?_) ?_; rotate_left 1; (focus ((try dsimp only at hS); (try go_split_ands); go_simp; (try with_reducible rfl))); (try simp only [Act.put, List.setIfInBounds_toArray, List.set_cons_zero, List.set_cons_succ]))
  refine mix_end ?_
  (try dsimp only)
  go_wp2_with fail
  (try simp only [Exit.inBlock, Exit.then])
  refine bodyPost_ret (results_tmp_row_tmp rfl _ _ w.heap.size 37 #[.int .i64 x.job, .int .i64 x.task, .int .i64 x.level] (0, 0) _ rfl (by exact ((Hd.fol H4 : Hd w0 _ _).k w.heap.size).heap) Tryz.underlying37 rfl (by kernel_rfl)) rfl ⟨rfl, ?_⟩
  exact Hd.b2 (Lev.shut (i := k) (l := x :: l) (l' := l) (r := r) (r' := ⟨v2, f2, gar2⟩) (rs := rs) (sp := sp) (qs := qs) (R := cel b T C :: R) (Hd.fin H4) hk hG.out.1 hG.out.2.1 ⟨hg2, hf2⟩)

set_option maxRecDepth 20000 in
set_option maxHeartbeats 1600000 in
theorem levTakeNo (H : Hd w0 (cel b T C :: Lev v qs :: R) w) (hC : C[o]? = some v) (hn : ∀ l ∈ qs, l.length ≤ 10000) (h32 : qs.length ≤ 32) (hh : hiQ qs qs.length = 0) :
    Calls Tryz.prog 96 #[.pointer (some ⟨b, o, none⟩)] w fun e w' =>
      e = .returned (.tuple #[.int .i64 0, .agg #[.int .i64 0, .int .i64 0, .int .i64 0], .bool false]) ∧ Hd w0 (cel b T C :: Lev v qs :: R) w' := by
  have HA : Hd w0 _ (w.alloc (.cells #[.int .i64 0, .int .i64 0, .int .i64 0] 37)) := H.fol
  have hfr := levFrontNo (o := o) ((HA.v v).k b) hC hn h32 hh
  clear HA H h32 hn
  go_enter Tryz.func96, Tryz.ntmps96
  go_wp2_with fail
  refine hfr.mono ?_
  rintro e w1 ⟨rfl, H1⟩
  clear hfr
  have H4 : Hd w0 _ (w1.alloc (.cells #[.int .i64 0, .int .i64 0, .int .i64 0] 37)) := H1.fol
  have x0 := (H4.k w1.heap.size).rd 0
  have x1 := (H4.k w1.heap.size).rd 1
  have x2 := (H4.k w1.heap.size).rd 2
  simp only [List.getElem?_toArray, List.getElem?_cons_zero, List.getElem?_cons_succ] at x0 x1 x2
  have y0 := (H4.k w.heap.size).rd 0
  have y1 := (H4.k w.heap.size).rd 1
  have y2 := (H4.k w.heap.size).rd 2
  simp only [List.getElem?_toArray, List.getElem?_cons_zero, List.getElem?_cons_succ] at y0 y1 y2
  have z0 := (H4.k w.heap.size).fr 0
  have z1 := (H4.k w.heap.size).fr 1
  have z2 := (H4.k w.heap.size).fr 2
  go_wp2_with fail
  refine wp_region_mix0 [(0, true), (1, true), (2, true), (3, true), (4, false), (5, true)] (fun w' => w'.cell? ⟨w1.heap.size, 0, none⟩ = some (.int .i64 0) ∧ w'.cell? ⟨w1.heap.size, 1, none⟩ = some (.int .i64 0) ∧ w'.cell? ⟨w1.heap.size, 2, none⟩ = some (.int .i64 0)) (by kernel_rfl) (by kernel_rfl) (⟨x0, x1, x2⟩) (fun _ _ d _ _ h => by cases d <;> exact h) ?_
  iterate 4 (refine mix_head (o := _) (v := ?_) (by (simp only [List.getElem?_toArray, List.getElem?_cons_succ, List.getElem?_cons_zero]); rfl) (by rfl) (fun w' hS => ?_) ?_; rotate_left 1; (focus ((try dsimp only at hS); (try go_split_ands); go_simp; (try with_reducible rfl))); (try simp only [Act.put, List.setIfInBounds_toArray, List.set_cons_zero, List.set_cons_succ]))
  refine mix_mid (o := _) (by (simp only [List.getElem?_toArray, List.getElem?_cons_succ, List.getElem?_cons_zero]); rfl) ?_
  go_wp2_with fail
  refine mixQ_in ⟨by exact ((Hd.fol H4 : Hd w0 _ _).k w1.heap.size).ce 0 rfl, by exact ((Hd.fol H4 : Hd w0 _ _).k w1.heap.size).ce 1 rfl, by exact ((Hd.fol H4 : Hd w0 _ _).k w1.heap.size).ce 2 rfl⟩ ?_
  iterate 1 (refine mix_head (o := _) (v := ?_) (by (simp only [List.getElem?_toArray, List.getElem?_cons_succ, List.getElem?_cons_zero]); rfl) (by rfl) (fun w' hS => ?_) ?_; rotate_left 1; (focus ((try dsimp only at hS); (try go_split_ands); go_simp; (try with_reducible rfl))); (try simp only [Act.put, List.setIfInBounds_toArray, List.set_cons_zero, List.set_cons_succ]))
  refine mix_end ?_
  (try dsimp only)
  go_wp2_with fail
  (try simp only [Exit.inBlock, Exit.then])
  refine bodyPost_ret (results_tmp_row_tmp rfl _ _ w.heap.size 37 #[.int .i64 0, .int .i64 0, .int .i64 0] (0, 0) _ rfl (by exact ((Hd.fol H4 : Hd w0 _ _).k w.heap.size).heap) Tryz.underlying37 rfl (by kernel_rfl)) rfl ⟨rfl, ?_⟩
  exact (Hd.fin H4)

def lenQ (qs : List (List WaitM)) (k : Nat) : Nat := ((qs.take k).map List.length).sum
theorem lenQ_succ {k : Nat} {l : List WaitM} (h : qs[k]? = some l) : lenQ qs (k + 1) = lenQ qs k + l.length := by
  simp [lenQ, List.take_add_one, h]
theorem lenQ_le {qs : List (List WaitM)} (hn : ∀ l ∈ qs, l.length ≤ 10000) : ∀ k, k ≤ qs.length → lenQ qs k ≤ k * 10000 := by
  intro k
  induction k with
  | zero => intro _; simp [lenQ]
  | succ k ih =>
    intro hk
    have hl : qs[k]? = some (qs[k]'(by omega)) := List.getElem?_eq_getElem _
    have := hn _ (List.mem_of_getElem? hl)
    have := ih (by omega)
    rw [lenQ_succ hl]
    omega
set_option maxHeartbeats 800000 in
theorem levLen (H : Hd w0 (cel b T C :: Lev v qs :: R) w) (hC : C[o]? = some v) (hn : ∀ l ∈ qs, l.length ≤ 10000) (h32 : qs.length ≤ 32) :
    Calls Tryz.prog 104 #[.pointer (some ⟨b, o, none⟩)] w fun e w' =>
      e = .returned (.int .i64 (lenQ qs qs.length)) ∧ ∃ n, w' = w.drewN n := by
  obtain ⟨g, rfl⟩ := levForm H.b2
  have c0 := (H.rd o).trans hC
  have hO := Lib.hid (And.intro H (And.intro hC hn))
  clear H hC hn
  go_enter Tryz.func104, Tryz.ntmps104
  go_wp2
  go_loopw [3, 10] (fun s i wr => ∃ k n : Nat, k ≤ qs.length ∧ i = .int .i64 k ∧ s = .int .i64 (lenQ qs k) ∧ wr = w.drewN n) (fun _ i _ => qs.length - (intOf i).toNat)
  case atStart => exact ⟨0, 0, Nat.zero_le _, rfl, rfl, rfl⟩
  case round =>
    obtain ⟨k, n, hk, rfl, rfl, rfl⟩ := hrel
    by_cases hlt : k < qs.length
    · obtain ⟨l, hl⟩ : ∃ l, qs[k]? = some l := ⟨qs[k]'(by omega), List.getElem?_eq_getElem _⟩
      have hln := hO.out.2.2 l (List.mem_of_getElem? hl)
      have hsum := lenQ_le hO.out.2.2 k hk
      obtain ⟨g2, rs, sp, r, hf, hr, hq, H1⟩ := Lev.opened hO.out.1.b2 hl
      have hle := hq.le
      obtain rfl : g = g2 := by have := hf.v; injection this with h1 _ _; injection h1 with h1; injection h1
      have hr2 := rowC_at (sp := sp) hr
      have hcall := qLen_wait (C := rowC rs sp) (v := r.v) (o := k * 2) (f := r.f) (l := l) (gar := r.gar) (((Hd.fol H1 : Hd w0 _ (w.drewN n)).v r.v).k g) hr2.1 hr2.2 (by omega) (by omega)
      have g4 : IntKind.i64.wrap ((lenQ qs k : Int) + (l.length : Int)) = (lenQ qs k : Int) + l.length := IntWalk.i64_in _ (by omega)
      have g5 : IntKind.i64.wrap ((k : Int) + 1) = (k : Int) + 1 := IntWalk.i64_in _ (by omega)
      have n0 : ¬ ((k : Int) < 0) := by omega
      have n1 : (k : Int) < qs.length := by omega
      have n2 : ¬ qs.length ≤ k := by omega
      have hs := Lib.hid (lenQ_succ hl)
      clear H1 hr hr2 hq hf hle hln hl hsum
      go_wp2_with fail
      refine hcall.mono ?_
      rintro e w' ⟨rfl, n', rfl⟩
      clear hcall
      go_wp2_with fail
      go_roundw
      case rel => exact ⟨k + 1, _, by omega, rfl, by rw [hs.out]; rfl, rfl⟩
      case measure => simp [intOf]; omega
    · obtain rfl : k = qs.length := by omega
      go_wp2
      go_ret
      exact ⟨rfl, n, rfl⟩
end
end Go.Proofs.YtogcikilphakmaaGreatDoor

/-
  queue.Queue over the separation logic: New, Put, Next, Take.
-/
namespace Go.Proofs.YtogcikilphakmaaGreatDoor
open Go.RowKit Spl

structure WqM where
  qs : List (List WaitM)
  act : List Int
structure WqM.Ok (m : WqM) : Prop where
  q : m.qs.length = 32
  a : m.act.length = 64
  l : ∀ l ∈ m.qs, l.length ≤ 1000
  c : ∀ x ∈ m.act, 0 ≤ x ∧ x ≤ 8
def WqM.empty : WqM := ⟨emptyQ 32, List.replicate 64 0⟩
def WqM.putE (m : WqM) (t l j : Int) : Int := if t < 0 ∨ t ≥ 64 ∨ l < 1 ∨ l > 32 ∨ j < 0 then 1 else if m.act[t.toNat]?.getD 0 ≥ 8 then 4 else 0
def WqM.put (m : WqM) (t l j : Int) : WqM := if m.putE t l j = 0 then ⟨m.qs.set (l - 1).toNat (m.qs[(l - 1).toNat]?.getD [] ++ [⟨j, t, l⟩]), m.act.set t.toNat (m.act[t.toNat]?.getD 0 + 1)⟩ else m
def WqM.next (m : WqM) : Option WaitM := match hiQ m.qs m.qs.length with | 0 => none | k + 1 => (m.qs[k]?.getD []).head?
def WqM.take (m : WqM) : WqM := match hiQ m.qs m.qs.length with | 0 => m | k + 1 => match m.qs[k]?.getD [] with
  | [] => m
  | x :: l => ⟨m.qs.set k l, m.act.set x.task.toNat (m.act[x.task.toNat]?.getD 0 - 1)⟩
def WqP (b : Nat) (m : WqM) : Pr := ex fun v : Value => all [cel b 183 (v :: m.act.map (Value.int .i64)).toArray, Lev v m.qs]
instance (b : Nat) (m : WqM) : Key (WqP b m) (.b b) := ⟨trivial⟩
section
variable {w0 w : World} {R : List Pr} {b : Nat} {m : WqM}
theorem WqP.opened (H : Hd w0 (WqP b m :: R) w) : ∃ v, Hd w0 (cel b 183 (v :: m.act.map (Value.int .i64)).toArray :: Lev v m.qs :: R) w := by
  obtain ⟨v, H⟩ := H.out
  exact ⟨v, H.flat⟩
theorem WqP.shut {v : Value} (H : Hd w0 (cel b 183 (v :: m.act.map (Value.int .i64)).toArray :: Lev v m.qs :: R) w) : Hd w0 (WqP b m :: R) w :=
  Hd.into v (Hd.pack (L := [_, _]) H)

theorem wqZero : Tryz.zeroCells183 = (.slice none 0 0 :: (List.replicate 64 (0 : Int)).map (Value.int .i64)).toArray := by kernel_rfl
theorem wqNew (H : Hd w0 R w) : Calls Tryz.prog 45 #[] w fun e w' => ∃ b, e = .returned (.pointer (some ⟨b, 0, none⟩)) ∧ Hd w0 (WqP b WqM.empty :: R) w' := by
  go_enter Tryz.func45, Tryz.ntmps45
  go_wp2_with fail
  refine (levNew H).mono ?_
  rintro e w1 ⟨b, v, rfl, H1⟩
  have c0 := (H1.k b).ce 0 rfl
  go_wp2_with fail
  go_ret
  refine ⟨_, rfl, WqP.shut (v := v) ?_⟩
  rw [wqZero, List.setIfInBounds_toArray, List.set_cons_zero]
  show Hd w0 (cel w1.heap.size 183 (v :: (List.replicate 64 (0 : Int)).map (Value.int .i64)).toArray :: Lev v (emptyQ 32) :: R) _
  exact (Hd.fin H1)

set_option maxRecDepth 20000 in
set_option maxHeartbeats 1600000 in
theorem wqPut (H : Hd w0 (WqP b m :: R) w) (hm : m.Ok) (t l j : Int) : Calls Tryz.prog 59 #[.pointer (some ⟨b, 0, none⟩), .int .i64 t, .int .i64 l, .int .i64 j] w fun e w' => e = .returned (.int .i64 (m.putE t l j)) ∧ Hd w0 (WqP b (m.put t l j) :: R) w' := by
  obtain ⟨v, H1⟩ := WqP.opened H
  by_cases h1 : t < 0 ∨ t ≥ 64 ∨ l < 1 ∨ l > 32 ∨ j < 0
  · have e1 : m.putE t l j = 1 := by unfold WqM.putE; rw [if_pos h1]
    have e2 : m.put t l j = m := by unfold WqM.put; rw [e1]; rfl
    rw [e1, e2]
    clear H1 e1 e2
    go_enter Tryz.func59, Tryz.ntmps59
    by_cases a1 : t < 0
    · go_wp2
      go_ret
      exact ⟨rfl, H⟩
    · by_cases a2 : t ≥ 64
      · go_wp2
        go_ret
        exact ⟨rfl, H⟩
      · by_cases a3 : l < 1
        · go_wp2
          go_ret
          exact ⟨rfl, H⟩
        · by_cases a4 : l > 32
          · go_wp2
            go_ret
            exact ⟨rfl, H⟩
          · have a5 : j < 0 := by omega
            go_wp2
            go_ret
            exact ⟨rfl, H⟩
  · obtain ⟨tn, rfl⟩ : ∃ tn : Nat, t = tn := ⟨t.toNat, by omega⟩
    obtain ⟨ln, rfl⟩ : ∃ ln : Nat, l = (ln : Int) + 1 := ⟨(l - 1).toNat, by omega⟩
    have a1 : ¬ ((tn : Int) < 0) := by omega
    have a2 : ¬ ((tn : Int) ≥ 64) := by omega
    have a3 : ¬ ((ln : Int) + 1 < 1) := by omega
    have a4 : ¬ ((ln : Int) + 1 > 32) := by omega
    have a5 : ¬ (j < 0) := by omega
    have e0 : m.putE tn ((ln : Int) + 1) j = if m.act[tn]?.getD 0 ≥ 8 then 4 else 0 := by unfold WqM.putE; rw [if_neg h1, Int.toNat_natCast]
    obtain ⟨a, ha⟩ : ∃ a, m.act[tn]? = some a := ⟨m.act[tn]'(by have := hm.a; omega), List.getElem?_eq_getElem _⟩
    have hC : ((v :: m.act.map (Value.int .i64)).toArray)[1 + tn]? = some (.int .i64 a) := by simp [Nat.add_comm 1 tn, ha]
    have c0 := H1.ce (1 + tn) hC
    have c1 := H1.fr (1 + tn)
    clear h1
    by_cases h2 : a ≥ 8
    · have e1 : m.putE tn ((ln : Int) + 1) j = 4 := by rw [e0, ha]; simp; omega
      have e2 : m.put tn ((ln : Int) + 1) j = m := by unfold WqM.put; rw [e1]; rfl
      rw [e1, e2]
      clear H1 e0 e1 e2 c1 hm
      go_enter Tryz.func59, Tryz.ntmps59
      go_wp2
      go_ret
      exact ⟨rfl, H⟩
    · have e1 : m.putE tn ((ln : Int) + 1) j = 0 := by rw [e0, ha]; simp; omega
      obtain ⟨l0, hl⟩ : ∃ l0, m.qs[ln]? = some l0 := ⟨m.qs[ln]'(by have := hm.q; omega), List.getElem?_eq_getElem _⟩
      have hb := hm.c a (List.mem_of_getElem? ha)
      have g1 : IntKind.i64.wrap (a + 1) = a + 1 := IntWalk.i64_in _ (by omega)
      have e2 : m.put tn ((ln : Int) + 1) j = ⟨m.qs.set ln (l0 ++ [⟨j, tn, (ln : Int) + 1⟩]), m.act.set tn (a + 1)⟩ := by
        unfold WqM.put
        have e3 : ((ln : Int) + 1 - 1).toNat = ln := by omega
        rw [e1, if_pos rfl, e3, Int.toNat_natCast, ha, hl]
        rfl
      rw [e1, e2]
      have H2 : Hd w0 _ (w.setCell ⟨b, 1 + tn, none⟩ (.int .i64 (a + 1))) := H1.fol
      have e4 : ((v :: m.act.map (Value.int .i64)).toArray).setIfInBounds (1 + tn) (.int .i64 (a + 1)) = (v :: (m.act.set tn (a + 1)).map (Value.int .i64)).toArray := by
        rw [List.setIfInBounds_toArray, Nat.add_comm 1 tn, List.set_cons_succ, List.map_set]
      rw [e4] at H2
      have hput := levPut (i := ln) (l := l0) (C := (v :: (m.act.set tn (a + 1)).map (Value.int .i64)).toArray) (o := 0) (v := v) (qs := m.qs) H2.drew rfl hl (by have := hm.l _ (List.mem_of_getElem? hl); omega) (by have := hm.q; omega) ⟨j, tn, (ln : Int) + 1⟩
      clear H H1 H2 hC e0 e1 e2 e4 hm hb ha hl
      go_enter Tryz.func59, Tryz.ntmps59
      go_wp2_with fail
      refine wp_region_still_tail 10 (by kernel_rfl) (by kernel_rfl) ?_
      simp only [List.take_succ_cons, List.take_zero, List.drop_succ_cons, List.drop_zero, World.drew_eq]
      (repeat still_step)
      refine wpStill_nil ?_
      go_wp2_with fail
      refine hput.mono ?_
      rintro e w' ⟨rfl, H3⟩
      go_wp2_with fail
      go_ret
      exact ⟨rfl, WqP.shut H3⟩

set_option maxRecDepth 20000 in
set_option maxHeartbeats 1600000 in
theorem wqNext {x : WaitM} (H : Hd w0 (WqP b m :: R) w) (hm : m.Ok) (hx : m.next = some x) : Calls Tryz.prog 94 #[.pointer (some ⟨b, 0, none⟩)] w fun e w' => e = .returned (.tuple #[.agg #[.int .i64 x.job, .int .i64 x.task, .int .i64 x.level], .bool true]) ∧ Hd w0 (WqP b m :: R) w' := by
  obtain ⟨v, H1⟩ := WqP.opened H
  obtain ⟨k, l, hh, hk⟩ : ∃ k l, hiQ m.qs m.qs.length = k + 1 ∧ m.qs[k]? = some (x :: l) := by
    unfold WqM.next at hx
    split at hx
    · cases hx
    · rename_i k hh
      obtain ⟨y, l, hk⟩ := hiQ_some hh
      rw [hk] at hx
      simp at hx
      exact ⟨k, l, hh, by rw [hk, hx]⟩
  have HA : Hd w0 _ (w.alloc (.cells #[.int .i64 0, .int .i64 0, .int .i64 0] 37)) := H1.fol
  have hcall := levFront (o := 0) ((HA.v v).k b) rfl (fun l hl => by have := hm.l l hl; omega) (by have := hm.q; omega) hh hk
  clear H H1 HA hm hx hh hk
  go_enter Tryz.func94, Tryz.ntmps94
  go_wp2_with fail
  refine hcall.mono ?_
  rintro e w1 ⟨rfl, H1⟩
  clear hcall
  have H4 : Hd w0 _ (w1.alloc (.cells #[.int .i64 x.job, .int .i64 x.task, .int .i64 x.level] 37)) := H1.fol
  have x0 := (H4.k w1.heap.size).rd 0
  have x1 := (H4.k w1.heap.size).rd 1
  have x2 := (H4.k w1.heap.size).rd 2
  simp only [List.getElem?_toArray, List.getElem?_cons_zero, List.getElem?_cons_succ] at x0 x1 x2
  have y0 := (H4.k w.heap.size).rd 0
  have y1 := (H4.k w.heap.size).rd 1
  have y2 := (H4.k w.heap.size).rd 2
  simp only [List.getElem?_toArray, List.getElem?_cons_zero, List.getElem?_cons_succ] at y0 y1 y2
  have z0 := (H4.k w.heap.size).fr 0
  have z1 := (H4.k w.heap.size).fr 1
  have z2 := (H4.k w.heap.size).fr 2
  go_wp2_with fail
  (try simp only [Exit.inBlock, Exit.then])
  refine bodyPost_ret (results_row_tmp rfl _ _ w.heap.size 37 #[.int .i64 x.job, .int .i64 x.task, .int .i64 x.level] (0, 0) _ rfl (by exact ((Hd.fol H4 : Hd w0 _ _).k w.heap.size).heap) Tryz.underlying37 rfl (by kernel_rfl)) rfl ⟨rfl, ?_⟩
  exact WqP.shut (v := v) (Hd.fin H4)

set_option maxRecDepth 20000 in
set_option maxHeartbeats 1600000 in
theorem wqNextNo (H : Hd w0 (WqP b m :: R) w) (hm : m.Ok) (hx : m.next = none) : Calls Tryz.prog 94 #[.pointer (some ⟨b, 0, none⟩)] w fun e w' => e = .returned (.tuple #[.agg #[.int .i64 0, .int .i64 0, .int .i64 0], .bool false]) ∧ Hd w0 (WqP b m :: R) w' := by
  obtain ⟨v, H1⟩ := WqP.opened H
  have hh : hiQ m.qs m.qs.length = 0 := by
    unfold WqM.next at hx
    split at hx
    · rename_i h; exact h
    · rename_i k hh
      obtain ⟨y, l, hk⟩ := hiQ_some hh
      rw [hk] at hx
      simp at hx
  have HA : Hd w0 _ (w.alloc (.cells #[.int .i64 0, .int .i64 0, .int .i64 0] 37)) := H1.fol
  have hcall := levFrontNo (o := 0) ((HA.v v).k b) rfl (fun l hl => by have := hm.l l hl; omega) (by have := hm.q; omega) hh
  clear H H1 HA hm hx hh
  go_enter Tryz.func94, Tryz.ntmps94
  go_wp2_with fail
  refine hcall.mono ?_
  rintro e w1 ⟨rfl, H1⟩
  clear hcall
  have H4 : Hd w0 _ (w1.alloc (.cells #[.int .i64 0, .int .i64 0, .int .i64 0] 37)) := H1.fol
  have x0 := (H4.k w1.heap.size).rd 0
  have x1 := (H4.k w1.heap.size).rd 1
  have x2 := (H4.k w1.heap.size).rd 2
  simp only [List.getElem?_toArray, List.getElem?_cons_zero, List.getElem?_cons_succ] at x0 x1 x2
  have y0 := (H4.k w.heap.size).rd 0
  have y1 := (H4.k w.heap.size).rd 1
  have y2 := (H4.k w.heap.size).rd 2
  simp only [List.getElem?_toArray, List.getElem?_cons_zero, List.getElem?_cons_succ] at y0 y1 y2
  have z0 := (H4.k w.heap.size).fr 0
  have z1 := (H4.k w.heap.size).fr 1
  have z2 := (H4.k w.heap.size).fr 2
  go_wp2_with fail
  (try simp only [Exit.inBlock, Exit.then])
  refine bodyPost_ret (results_row_tmp rfl _ _ w.heap.size 37 #[.int .i64 0, .int .i64 0, .int .i64 0] (0, 0) _ rfl (by exact ((Hd.fol H4 : Hd w0 _ _).k w.heap.size).heap) Tryz.underlying37 rfl (by kernel_rfl)) rfl ⟨rfl, ?_⟩
  exact WqP.shut (v := v) (Hd.fin H4)

set_option maxRecDepth 20000 in
set_option maxHeartbeats 1600000 in
theorem wqTake {x : WaitM} (H : Hd w0 (WqP b m :: R) w) (hm : m.Ok) (hx : m.next = some x) (ht : 0 ≤ x.task ∧ x.task < 64) : Calls Tryz.prog 61 #[.pointer (some ⟨b, 0, none⟩)] w fun e w' => e = .returned (.tuple #[.agg #[.int .i64 x.job, .int .i64 x.task, .int .i64 x.level], .bool true]) ∧ Hd w0 (WqP b m.take :: R) w' := by
  obtain ⟨v, H1⟩ := WqP.opened H
  obtain ⟨k, l, hh, hk⟩ : ∃ k l, hiQ m.qs m.qs.length = k + 1 ∧ m.qs[k]? = some (x :: l) := by
    unfold WqM.next at hx
    split at hx
    · cases hx
    · rename_i k hh
      obtain ⟨y, l, hk⟩ := hiQ_some hh
      rw [hk] at hx
      simp at hx
      exact ⟨k, l, hh, by rw [hk, hx]⟩
  obtain ⟨tn, htn⟩ : ∃ tn : Nat, x.task = tn := ⟨x.task.toNat, by omega⟩
  obtain ⟨a, ha⟩ : ∃ a, m.act[tn]? = some a := ⟨m.act[tn]'(by have := hm.a; omega), List.getElem?_eq_getElem _⟩
  have hb := hm.c a (List.mem_of_getElem? ha)
  have e2 : m.take = ⟨m.qs.set k l, m.act.set tn (a - 1)⟩ := by
    unfold WqM.take
    simp only [hh, hk, Option.getD_some, htn, Int.toNat_natCast, ha]
  rw [e2]
  have HA : Hd w0 _ (w.alloc (.cells #[.int .i64 0, .int .i64 0, .int .i64 0] 37)) := H1.fol
  have hcall := levTake (o := 0) ((HA.v v).k b) rfl (fun l hl => by have := hm.l l hl; omega) (by have := hm.q; omega) hh hk
  have hC : ((v :: m.act.map (Value.int .i64)).toArray)[1 + tn]? = some (.int .i64 a) := by simp [Nat.add_comm 1 tn, ha]
  have g1 : IntKind.i64.wrap (a - 1) = a - 1 := IntWalk.i64_in _ (by omega)
  have g2 : (tn : Int) < 64 := by omega
  have e4 : ((v :: m.act.map (Value.int .i64)).toArray).setIfInBounds (1 + tn) (.int .i64 (a - 1)) = (v :: (m.act.set tn (a - 1)).map (Value.int .i64)).toArray := by
    rw [List.setIfInBounds_toArray, Nat.add_comm 1 tn, List.set_cons_succ, List.map_set]
  rw [htn] at hcall ⊢
  replace e4 := Lib.hid e4
  clear H H1 HA hm hx hh hk hb ht e2 ha
  go_enter Tryz.func61, Tryz.ntmps61
  go_wp2_with fail
  refine hcall.mono ?_
  rintro e w1 ⟨rfl, H1⟩
  clear hcall
  have H4 : Hd w0 _ (w1.alloc (.cells #[.int .i64 x.job, .int .i64 tn, .int .i64 x.level] 37)) := H1.fol
  have c0 := (H4.k b).ce (1 + tn) hC
  have c1 := (H4.k b).fr (1 + tn)
  have y0 := (H4.k w1.heap.size).rd 0
  have y1 := (H4.k w1.heap.size).rd 1
  have y2 := (H4.k w1.heap.size).rd 2
  simp only [List.getElem?_toArray, List.getElem?_cons_zero, List.getElem?_cons_succ] at y0 y1 y2
  have H5 : Hd w0 _ ((w1.alloc (.cells #[.int .i64 x.job, .int .i64 tn, .int .i64 x.level] 37)).setCell ⟨b, 1 + tn, none⟩ (.int .i64 (a - 1))) := H4.fol
  rw [e4.out] at H5
  clear H4
  have p0 := (H5.k w1.heap.size).rd 0
  have p1 := (H5.k w1.heap.size).rd 1
  have p2 := (H5.k w1.heap.size).rd 2
  simp only [List.getElem?_toArray, List.getElem?_cons_zero, List.getElem?_cons_succ] at p0 p1 p2
  have q0 := (H5.k w.heap.size).rd 0
  have q1 := (H5.k w.heap.size).rd 1
  have q2 := (H5.k w.heap.size).rd 2
  simp only [List.getElem?_toArray, List.getElem?_cons_zero, List.getElem?_cons_succ] at q0 q1 q2
  have r0 := (H5.k w.heap.size).fr 0
  have r1 := (H5.k w.heap.size).fr 1
  have r2 := (H5.k w.heap.size).fr 2
  go_wp2_with fail
  refine wp_region_still_tail 11 (by kernel_rfl) (by kernel_rfl) ?_
  simp only [List.take_succ_cons, List.take_zero, List.drop_succ_cons, List.drop_zero, World.drew_eq]
  (repeat still_step)
  refine wpStill_nil ?_
  go_wp2_with fail
  (try simp only [Exit.inBlock, Exit.then])
  refine bodyPost_ret (results_row_tmp rfl _ _ w.heap.size 37 #[.int .i64 x.job, .int .i64 tn, .int .i64 x.level] (0, 0) _ rfl (by exact ((Hd.fol H5 : Hd w0 _ _).k w.heap.size).heap) Tryz.underlying37 rfl (by kernel_rfl)) rfl ⟨rfl, ?_⟩
  refine WqP.shut (v := v) ?_
  show Hd w0 (cel b 183 (v :: (m.act.set tn (a - 1)).map (Value.int .i64)).toArray :: Lev v (m.qs.set k l) :: R) _
  exact (Hd.fin H5)

set_option maxRecDepth 20000 in
set_option maxHeartbeats 1600000 in
theorem wqTakeNo (H : Hd w0 (WqP b m :: R) w) (hm : m.Ok) (hx : m.next = none) : Calls Tryz.prog 61 #[.pointer (some ⟨b, 0, none⟩)] w fun e w' => e = .returned (.tuple #[.agg #[.int .i64 0, .int .i64 0, .int .i64 0], .bool false]) ∧ Hd w0 (WqP b m :: R) w' := by
  obtain ⟨v, H1⟩ := WqP.opened H
  have hh : hiQ m.qs m.qs.length = 0 := by
    unfold WqM.next at hx
    split at hx
    · rename_i h; exact h
    · rename_i k hh
      obtain ⟨y, l, hk⟩ := hiQ_some hh
      rw [hk] at hx
      simp at hx
  have HA : Hd w0 _ (w.alloc (.cells #[.int .i64 0, .int .i64 0, .int .i64 0] 37)) := H1.fol
  have hcall := levTakeNo (o := 0) ((HA.v v).k b) rfl (fun l hl => by have := hm.l l hl; omega) (by have := hm.q; omega) hh
  clear H H1 HA hm hx hh
  go_enter Tryz.func61, Tryz.ntmps61
  go_wp2_with fail
  refine hcall.mono ?_
  rintro e w1 ⟨rfl, H1⟩
  clear hcall
  have H4 : Hd w0 _ (w1.alloc (.cells #[.int .i64 0, .int .i64 0, .int .i64 0] 37)) := H1.fol
  have x0 := (H4.k w1.heap.size).rd 0
  have x1 := (H4.k w1.heap.size).rd 1
  have x2 := (H4.k w1.heap.size).rd 2
  simp only [List.getElem?_toArray, List.getElem?_cons_zero, List.getElem?_cons_succ] at x0 x1 x2
  have y0 := (H4.k w.heap.size).rd 0
  have y1 := (H4.k w.heap.size).rd 1
  have y2 := (H4.k w.heap.size).rd 2
  simp only [List.getElem?_toArray, List.getElem?_cons_zero, List.getElem?_cons_succ] at y0 y1 y2
  have z0 := (H4.k w.heap.size).fr 0
  have z1 := (H4.k w.heap.size).fr 1
  have z2 := (H4.k w.heap.size).fr 2
  go_wp2_with fail
  (try simp only [Exit.inBlock, Exit.then])
  refine bodyPost_ret (results_row_tmp rfl _ _ w.heap.size 37 #[.int .i64 0, .int .i64 0, .int .i64 0] (0, 0) _ rfl (by exact ((Hd.fol H4 : Hd w0 _ _).k w.heap.size).heap) Tryz.underlying37 rfl (by kernel_rfl)) rfl ⟨rfl, ?_⟩
  exact WqP.shut (v := v) (Hd.fin H4)
end
end Go.Proofs.YtogcikilphakmaaGreatDoor

/-
  The waiting jobs' plain law: what every queue keeps. No program in sight.
-/
namespace Go.Proofs.YtogcikilphakmaaGreatDoor
open Go.RowKit Spl

theorem sum_setN : ∀ {l : List Nat} {k a b : Nat}, l[k]? = some a → (l.set k b).sum + a = l.sum + b
  | [], k, a, b, h => by simp at h
  | x :: l, 0, a, b, h => by simp at h; subst h; simp; omega
  | x :: l, k + 1, a, b, h => by
    have := sum_setN (l := l) (k := k) (a := a) (b := b) (by simpa using h)
    simp only [List.set_cons_succ, List.sum_cons]
    omega
theorem le_sumN : ∀ {l : List Nat} {k a : Nat}, l[k]? = some a → a ≤ l.sum
  | [], k, a, h => by simp at h
  | x :: l, 0, a, h => by simp at h; subst h; simp
  | x :: l, k + 1, a, h => by
    have := le_sumN (l := l) (k := k) (a := a) (by simpa using h)
    simp only [List.sum_cons]
    omega
def cntL (l : List WaitM) (t : Nat) : Nat := l.countP (fun x => x.task == (t : Int))
def cntQ (qs : List (List WaitM)) (t : Nat) : Nat := (qs.map fun l => cntL l t).sum
theorem cntL_one (x : WaitM) (t : Nat) : cntL [x] t = if x.task = t then 1 else 0 := by
  unfold cntL
  by_cases h : x.task = t <;> simp [h]
theorem cntL_append (l m : List WaitM) (t : Nat) : cntL (l ++ m) t = cntL l t + cntL m t := List.countP_append
theorem cntL_cons (x : WaitM) (l : List WaitM) (t : Nat) : cntL (x :: l) t = (if x.task = t then 1 else 0) + cntL l t := by
  rw [← cntL_one, ← cntL_append]; rfl
theorem sum_pick : ∀ (n : Nat) (x : Int), 0 ≤ x → ((List.range n).map fun t : Nat => if x = (t : Int) then 1 else 0).sum = if x < n then 1 else 0
  | 0, x, h => by simp; omega
  | n + 1, x, h => by
    have := sum_pick n x h
    rw [List.range_succ, List.map_append, List.sum_append, this]
    simp only [List.map_cons, List.map_nil, List.sum_cons, List.sum_nil]
    by_cases h1 : x < n
    · rw [if_pos h1, if_neg (by omega), if_pos (by omega)]; rfl
    · rw [if_neg h1]
      by_cases h2 : x = n
      · rw [if_pos h2, if_pos (by omega)]; rfl
      · rw [if_neg h2, if_neg (by omega)]; rfl
theorem sum_mapAdd (f g : Nat → Nat) : ∀ l : List Nat, (l.map fun t => f t + g t).sum = (l.map f).sum + (l.map g).sum
  | [] => rfl
  | t :: l => by
    have := sum_mapAdd f g l
    simp only [List.map_cons, List.sum_cons]
    omega
theorem sum_mapLe (f : Nat → Nat) (c : Nat) : ∀ l : List Nat, (∀ t ∈ l, f t ≤ c) → (l.map f).sum ≤ l.length * c
  | [], _ => by simp
  | t :: l, h => by
    have h1 := sum_mapLe f c l (fun u hu => h u (by simp [hu]))
    have h2 := h t (by simp)
    simp only [List.map_cons, List.sum_cons, List.length_cons, Nat.add_mul]
    omega
theorem len_sum {n : Nat} : ∀ {l : List WaitM}, (∀ x ∈ l, 0 ≤ x.task ∧ x.task < n) → l.length = ((List.range n).map fun t => cntL l t).sum
  | [], _ => by
    have : ∀ k : List Nat, (k.map fun t => cntL [] t).sum = 0 := by
      intro k
      induction k with
      | nil => rfl
      | cons t k ih => simp only [List.map_cons, List.sum_cons, ih]; rfl
    rw [this]; rfl
  | x :: l, h => by
    have h1 := len_sum (l := l) (fun y hy => h y (by simp [hy]))
    have h2 := h x (by simp)
    have h3 : (fun t => cntL (x :: l) t) = fun t : Nat => (if x.task = (t : Int) then 1 else 0) + cntL l t := by funext t; exact cntL_cons x l t
    rw [h3, sum_mapAdd, sum_pick n x.task h2.1, if_pos h2.2, List.length_cons, h1]
    exact Nat.add_comm _ _
theorem cntQ_at {qs : List (List WaitM)} {k : Nat} {l : List WaitM} (h : qs[k]? = some l) (t : Nat) : cntL l t ≤ cntQ qs t :=
  le_sumN (k := k) (by rw [List.getElem?_map, h]; rfl)
theorem cntQ_set {qs : List (List WaitM)} {k : Nat} {l l' : List WaitM} (h : qs[k]? = some l) (t : Nat) : cntQ (qs.set k l') t + cntL l t = cntQ qs t + cntL l' t := by
  unfold cntQ
  rw [List.map_set]
  exact sum_setN (by rw [List.getElem?_map, h]; rfl)
/-- What the waiting jobs keep; the jobs' numbers lie below n. -/
structure WqM.Inv (m : WqM) (n : Nat) : Prop where
  q : m.qs.length = 32
  a : m.act.length = 64
  c : ∀ t, t < 64 → m.act[t]? = some (cntQ m.qs t : Int)
  c8 : ∀ t, t < 64 → cntQ m.qs t ≤ 8
  e : ∀ (k : Nat) (l : List WaitM) (x : WaitM), m.qs[k]? = some l → x ∈ l → 0 ≤ x.task ∧ x.task < 64 ∧ x.level = k + 1 ∧ 0 ≤ x.job ∧ x.job < n
theorem WqM.Inv.len {m : WqM} {n : Nat} (h : m.Inv n) {l : List WaitM} (hl : l ∈ m.qs) : l.length ≤ 512 := by
  obtain ⟨k, hk⟩ := List.getElem?_of_mem hl
  rw [len_sum (n := 64) (fun x hx => ⟨(h.e k l x hk hx).1, (h.e k l x hk hx).2.1⟩)]
  have := sum_mapLe (fun t => cntL l t) 8 (List.range 64) (fun t ht => Nat.le_trans (cntQ_at hk t) (h.c8 t (List.mem_range.1 ht)))
  rw [List.length_range] at this
  omega
theorem WqM.Inv.ok {m : WqM} {n : Nat} (h : m.Inv n) : m.Ok := by
  refine ⟨h.q, h.a, fun l hl => by have := h.len hl; omega, fun x hx => ?_⟩
  obtain ⟨t, ht⟩ := List.getElem?_of_mem hx
  have h64 := lt_of_get? ht
  rw [h.a] at h64
  have h1 := h.c t h64
  rw [ht] at h1
  injection h1 with h1
  have := h.c8 t h64
  omega
theorem WqM.Inv.empty (n : Nat) : WqM.empty.Inv n := by
  have h0 : ∀ t k : Nat, cntQ (emptyQ k) t = 0 := by
    intro t k
    unfold emptyQ
    induction k with
    | zero => rfl
    | succ k ih =>
      unfold cntQ at ih ⊢
      rw [List.replicate_succ, List.map_cons, List.sum_cons, ih]; rfl
  refine ⟨by simp [WqM.empty, emptyQ], by simp [WqM.empty], fun t ht => ?_, fun t _ => ?_, fun k l x hk hx => ?_⟩
  · show (List.replicate 64 (0 : Int))[t]? = some (cntQ (emptyQ 32) t : Int)
    rw [h0, List.getElem?_replicate, if_pos ht]; rfl
  · show cntQ (emptyQ 32) t ≤ 8
    rw [h0]; omega
  · have hk2 : (List.replicate 32 ([] : List WaitM))[k]? = some l := hk
    rw [List.getElem?_replicate] at hk2
    split at hk2
    · injection hk2 with hk2
      subst hk2
      simp at hx
    · cases hk2
theorem WqM.Inv.put {m : WqM} {n : Nat} (h : m.Inv n) {t l : Int} (hE : m.putE t l n = 0) : (m.put t l n).Inv (n + 1) := by
  unfold WqM.put
  rw [if_pos hE]
  unfold WqM.putE at hE
  split at hE
  · cases hE
  · rename_i hr
    split at hE
    · cases hE
    · rename_i h8
      obtain ⟨i, rfl⟩ := Int.eq_ofNat_of_zero_le (show 0 ≤ t by omega)
      obtain ⟨k, rfl⟩ : ∃ k : Nat, l = k + 1 := ⟨(l - 1).toNat, by omega⟩
      have hk : k < m.qs.length := by rw [h.q]; omega
      have hi : i < 64 := by omega
      obtain ⟨L, hL⟩ : ∃ L, m.qs[k]? = some L := ⟨m.qs[k], List.getElem?_eq_getElem hk⟩
      have e1 : ((k : Int) + 1 - 1).toNat = k := by omega
      rw [e1, hL, Int.toNat_natCast, Option.getD_some]
      rw [Int.toNat_natCast] at h8
      have hci := h.c i hi
      rw [hci, Option.getD_some] at h8 ⊢
      have hset : ∀ t, cntQ (m.qs.set k (L ++ [⟨n, i, k + 1⟩])) t = cntQ m.qs t + if (i : Int) = t then 1 else 0 := by
        intro t
        have h1 := cntQ_set (l' := L ++ [⟨n, i, k + 1⟩]) hL t
        rw [cntL_append, cntL_one] at h1
        dsimp only at h1
        omega
      refine ⟨by rw [List.length_set]; exact h.q, by rw [List.length_set]; exact h.a, fun t ht => ?_, fun t ht => ?_, fun k' l' x hk' hx => ?_⟩
      · dsimp only
        rw [hset]
        by_cases hit : i = t
        · subst hit
          rw [List.getElem?_set_self (by rw [h.a]; exact hi), if_pos rfl]
          rfl
        · rw [List.getElem?_set_ne hit, h.c t ht, if_neg (by omega)]
          rfl
      · dsimp only
        rw [hset]
        have := h.c8 t ht
        by_cases hit : (i : Int) = t
        · have : i = t := by omega
          subst this
          rw [if_pos rfl]
          omega
        · rw [if_neg hit]; omega
      · dsimp only at hk'
        by_cases hkk : k = k'
        · subst hkk
          rw [List.getElem?_set_self hk] at hk'
          injection hk' with hk'
          subst hk'
          rcases List.mem_append.1 hx with hx | hx
          · have := h.e k L x hL hx
            refine ⟨this.1, this.2.1, this.2.2.1, this.2.2.2.1, by omega⟩
          · rw [List.mem_singleton] at hx
            subst hx
            dsimp only
            omega
        · rw [List.getElem?_set_ne hkk] at hk'
          have := h.e k' l' x hk' hx
          refine ⟨this.1, this.2.1, this.2.2.1, this.2.2.2.1, by omega⟩
theorem WqM.Inv.take {m : WqM} {n : Nat} (h : m.Inv n) : m.take.Inv n := by
  unfold WqM.take
  cases hh : hiQ m.qs m.qs.length with
  | zero => exact h
  | succ k =>
    obtain ⟨x, L, hL⟩ := hiQ_some hh
    dsimp only
    rw [hL, Option.getD_some]
    dsimp only
    have hx := h.e k _ x hL (by simp)
    obtain ⟨i, hi⟩ := Int.eq_ofNat_of_zero_le hx.1
    have hi64 : i < 64 := by omega
    rw [hi, Int.toNat_natCast, h.c i hi64, Option.getD_some]
    have hset : ∀ t, cntQ (m.qs.set k L) t + (if (i : Int) = t then 1 else 0) = cntQ m.qs t := by
      intro t
      have h1 := cntQ_set (l' := L) hL t
      rw [cntL_cons, hi] at h1
      omega
    have hk := lt_of_get? hL
    refine ⟨by rw [List.length_set]; exact h.q, by rw [List.length_set]; exact h.a, fun t ht => ?_, fun t ht => ?_, fun k' l' y hk' hy => ?_⟩
    · dsimp only
      have h1 := hset t
      by_cases hit : i = t
      · subst hit
        rw [if_pos rfl] at h1
        rw [List.getElem?_set_self (by rw [h.a]; exact hi64)]
        congr 1
        omega
      · rw [if_neg (by omega)] at h1
        rw [List.getElem?_set_ne hit, h.c t ht]
        congr 1
        omega
    · dsimp only
      have h1 := hset t
      have := h.c8 t ht
      omega
    · dsimp only at hk'
      by_cases hkk : k = k'
      · subst hkk
        rw [List.getElem?_set_self hk] at hk'
        injection hk' with hk'
        subst hk'
        exact h.e k _ y hL (by simp [hy])
      · rw [List.getElem?_set_ne hkk] at hk'
        exact h.e k' l' y hk' hy
end Go.Proofs.YtogcikilphakmaaGreatDoor
