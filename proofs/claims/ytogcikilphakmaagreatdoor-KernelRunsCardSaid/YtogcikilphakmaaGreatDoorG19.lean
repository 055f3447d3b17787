/-
  Merged texts of one proof: Q2, Ring, Lev, Ql.
-/
import Derived.Test.YtogcikilphakmaaGreatDoorG02
import Derived.Test.YtogcikilphakmaaGreatDoorG05
import Derived.Test.YtogcikilphakmaaGreatDoorG12
import Derived.Test.YtogcikilphakmaaGreatDoorG13

/-
  shelf.Queue: Take, both ways in one.
-/
namespace Go.Proofs.YtogcikilphakmaaGreatDoor
open Go.RowKit Spl
section
variable {w0 w : World} {R : List Pr} {s o T : Nat} {C : Array Value} {v : Value} {l : List WaitM} {f : Nat} {gar : List Value}

/-- Take, where there is an element. -/
theorem qTake_wait {x : WaitM} (H : Hd w0 (cel s T C :: Slc 37 3 v (f + (x :: l).length) (gar ++ flat (x :: l)) :: R) w) (hC : C[o]? = some v) (hC1 : C[o + 1]? = some (.int .i64 f)) (hg : gar.length = f * 3) (hf : f ≤ 100000) (hn : l.length < 100000) :
    Calls Tryz.prog 127 #[.pointer (some ⟨s, o, none⟩)] w fun e w' => e = .returned (.tuple #[.agg #[.int .i64 x.job, .int .i64 x.task, .int .i64 x.level], .bool true]) ∧
      ∃ (v' : Value) (f' : Nat) (gar' : List Value), gar'.length = f' * 3 ∧ f' ≤ l.length ∧ Hd w0 (cel s T ((C.setIfInBounds o v').setIfInBounds (o + 1) (.int .i64 f')) :: Slc 37 3 v' (f' + l.length) (gar' ++ flat l) :: R) w' := by
  by_cases h : f + 1 ≤ l.length
  · refine (qTakeA_wait H hC hC1 hg hf hn h).mono fun e w' ⟨he, h2⟩ => ⟨he, v, f + 1, gar ++ [.int .i64 0, .int .i64 0, .int .i64 0], by simp [hg]; omega, h, ?_⟩
    rw [set_same hC, Int.natCast_add]
    exact h2
  · refine (qTakeB_wait H hC hC1 hg hf hn (by omega)).mono fun e w' ⟨he, v', h2⟩ => ⟨he, v', 0, [], by simp, Nat.zero_le _, ?_⟩
    have h3 : Hd w0 (cel s T ((C.setIfInBounds o v').setIfInBounds (o + 1) (.int .i64 0)) :: Slc 37 3 v' l.length (flat l) :: R) w' := h2
    simpa using h3
end
section
variable {w0 w : World} {R : List Pr} {s o T : Nat} {C : Array Value} {v : Value} {l : List EvM} {f : Nat} {gar : List Value}

/-- Take, where there is an element. -/
theorem qTake_ev {x : EvM} (H : Hd w0 (cel s T C :: Slc 65 9 v (f + (x :: l).length) (gar ++ flat (x :: l)) :: R) w) (hC : C[o]? = some v) (hC1 : C[o + 1]? = some (.int .i64 f)) (hg : gar.length = f * 9) (hf : f ≤ 100000) (hn : l.length < 100000) :
    Calls Tryz.prog 89 #[.pointer (some ⟨s, o, none⟩)] w fun e w' => e = .returned (.tuple #[.agg #[.int .i64 x.kind, .int .i64 x.task, .int .i64 x.job, .int .i64 x.op.kind, .int .i64 x.op.res, .int .i64 x.op.n, .int .i64 x.op.v, .int .i64 x.why, .int .i64 x.clock], .bool true]) ∧
      ∃ (v' : Value) (f' : Nat) (gar' : List Value), gar'.length = f' * 9 ∧ f' ≤ l.length ∧ Hd w0 (cel s T ((C.setIfInBounds o v').setIfInBounds (o + 1) (.int .i64 f')) :: Slc 65 9 v' (f' + l.length) (gar' ++ flat l) :: R) w' := by
  by_cases h : f + 1 ≤ l.length
  · refine (qTakeA_ev H hC hC1 hg hf hn h).mono fun e w' ⟨he, h2⟩ => ⟨he, v, f + 1, gar ++ [.int .i64 0, .int .i64 0, .int .i64 0, .int .i64 0, .int .i64 0, .int .i64 0, .int .i64 0, .int .i64 0, .int .i64 0], by simp [hg]; omega, h, ?_⟩
    rw [set_same hC, Int.natCast_add]
    exact h2
  · refine (qTakeB_ev H hC hC1 hg hf hn (by omega)).mono fun e w' ⟨he, v', h2⟩ => ⟨he, v', 0, [], by simp, Nat.zero_le _, ?_⟩
    have h3 : Hd w0 (cel s T ((C.setIfInBounds o v').setIfInBounds (o + 1) (.int .i64 0)) :: Slc 65 9 v' l.length (flat l) :: R) w' := h2
    simpa using h3
end
end Go.Proofs.YtogcikilphakmaaGreatDoor

/-
  shelf.Ring of events over the separation logic: NewRing, Put, Dropped, List. Every ring.
-/
namespace Go.Proofs.YtogcikilphakmaaGreatDoor
open Go.RowKit Spl

structure RingM where
  l : List EvM
  most : Nat
  gone : Nat
structure RingM.Ok (m : RingM) : Prop where
  l : m.l.length ≤ m.most
  m0 : 0 < m.most
  m1 : m.most ≤ 4096
  g : m.gone ≤ 4611686018427387904
def RingM.put (m : RingM) (x : EvM) : RingM := if m.l.length = m.most then ⟨m.l.tail ++ [x], m.most, m.gone + 1⟩ else ⟨m.l ++ [x], m.most, m.gone⟩
structure QOk (size f n : Nat) (gar : List Value) : Prop where
  gar : gar.length = f * size
  le : f ≤ n
def RingP (b : Nat) (m : RingM) : Pr := ex fun x : Value × Nat × List Value => all [fact (QOk 9 x.2.1 m.l.length x.2.2), cel b 117 #[x.1, .int .i64 x.2.1, .int .i64 m.most, .int .i64 m.gone], Slc 65 9 x.1 (x.2.1 + m.l.length) (x.2.2 ++ flat m.l)]
instance (b : Nat) (m : RingM) : Key (RingP b m) (.b b) := ⟨trivial⟩
section
variable {w0 w : World} {R : List Pr} {b : Nat} {m : RingM}
theorem RingP.opened (H : Hd w0 (RingP b m :: R) w) : ∃ v f gar, QOk 9 f m.l.length gar ∧ Hd w0 (cel b 117 #[v, .int .i64 f, .int .i64 m.most, .int .i64 m.gone] :: Slc 65 9 v (f + m.l.length) (gar ++ flat m.l) :: R) w := by
  obtain ⟨⟨v, f, gar⟩, H⟩ := H.out
  have H2 := H.flat
  exact ⟨v, f, gar, Hd.get H2, H2.tail⟩
theorem RingP.shut {v : Value} {f : Nat} {gar : List Value} (H : Hd w0 (cel b 117 #[v, .int .i64 f, .int .i64 m.most, .int .i64 m.gone] :: Slc 65 9 v (f + m.l.length) (gar ++ flat m.l) :: R) w) (h : QOk 9 f m.l.length gar) : Hd w0 (RingP b m :: R) w :=
  Hd.into (v, f, gar) (Hd.pack (L := [_, _, _]) (H.put h))

theorem ringNew (H : Hd w0 R w) : Calls Tryz.prog 24 #[.int .i64 4096] w fun e w' => ∃ b, e = .returned (.tuple #[.pointer (some ⟨b, 0, none⟩), .int .i64 0]) ∧ Hd w0 (RingP b ⟨[], 4096, 0⟩ :: R) w' := by
  go_enter Tryz.func24, Tryz.ntmps24
  go_wp2
  go_ret2
  refine ⟨_, rfl, RingP.shut (m := ⟨[], 4096, 0⟩) (v := .slice none 0 0) (f := 0) (gar := []) ?_ ⟨rfl, Nat.le_refl _⟩⟩
  exact ((H.alloc (.cells #[.slice none 0 0, .int .i64 0, .int .i64 4096, .int .i64 0] 117)).slc_nil 65 9).b2

theorem ringDropped (H : Hd w0 (RingP b m :: R) w) : Calls Tryz.prog 42 #[.pointer (some ⟨b, 0, none⟩)] w fun e w' => e = .returned (.int .i64 m.gone) ∧ w = w' := by
  obtain ⟨v, f, gar, hq, H1⟩ := RingP.opened H
  have c3 := H1.rd 3
  clear H1 H
  go_enter Tryz.func42, Tryz.ntmps42
  go_wp2
  go_ret
  exact ⟨rfl, rfl⟩

set_option maxHeartbeats 1600000 in
theorem ringPut (H : Hd w0 (RingP b m :: R) w) (hm : m.Ok) (x : EvM) :
    Calls Tryz.prog 56 #[.pointer (some ⟨b, 0, none⟩), .agg #[.int .i64 x.kind, .int .i64 x.task, .int .i64 x.job, .int .i64 x.op.kind, .int .i64 x.op.res, .int .i64 x.op.n, .int .i64 x.op.v, .int .i64 x.why, .int .i64 x.clock]] w fun e w' =>
      e = .returned (.tuple #[]) ∧ Hd w0 (RingP b (m.put x) :: R) w' := by
  obtain ⟨v, f, gar, hq, H1⟩ := RingP.opened H
  have hml := hm.l
  have hm1 := hm.m1
  have hfl := hq.le
  have HB : Hd w0 _ (w.alloc (.cells #[.int .i64 x.kind, .int .i64 x.task, .int .i64 x.job, .int .i64 x.op.kind, .int .i64 x.op.res, .int .i64 x.op.n, .int .i64 x.op.v, .int .i64 x.why, .int .i64 x.clock] 65)) := H1.fol
  have c2 := (HB.k b).ce 2 (u := .int .i64 m.most) rfl
  have hE := Lib.hid (And.intro hm hq)
  have hg0 := hm.m0
  have hgg := hm.g
  clear H H1 hm hq
  by_cases hfull : m.l.length = m.most
  · obtain ⟨y, l', hl⟩ : ∃ y l', m.l = y :: l' := by
      cases h : m.l with
      | nil => rw [h] at hfull; simp at hfull; omega
      | cons y l' => exact ⟨y, l', rfl⟩
    have e1 : m.put x = ⟨l' ++ [x], m.most, m.gone + 1⟩ := by unfold RingM.put; rw [if_pos hfull, hl]; rfl
    rw [e1]
    have hb : ((m.l.length : Int) == m.most) = true := by rw [hfull]; simp
    have hlen : m.l.length = l'.length + 1 := by rw [hl]; simp
    have hw : IntKind.i64.wrap ((m.gone : Int) + 1) = (m.gone : Int) + 1 := IntWalk.i64_in _ (by omega)
    clear hgg
    have hF := Lib.hid (And.intro hfull (And.intro hl hlen))
    clear e1
    go_enter Tryz.func56, Tryz.ntmps56
    go_wp2_with fail
    refine wp_region_mix0 [(0, true), (1, true), (2, true), (4, true), (5, true), (6, true), (7, true), (3, false), (8, true)] (fun w' => w'.cell? ⟨b, 2, none⟩ = some (.int .i64 m.most)) (by kernel_rfl) (by kernel_rfl) (c2) (fun _ _ d _ _ h => by cases d <;> exact h) ?_
    iterate 7 (refine mix_head (o := _) (v := ?_) (by (simp only [List.getElem?_toArray, List.getElem?_cons_succ, List.getElem?_cons_zero]); rfl) (by rfl) (fun w' hS => ?_) ?_; rotate_left 1; (focus ((try dsimp only at hS); (try go_split_ands); go_simp; (try with_reducible rfl))); (try simp only [Act.put, List.setIfInBounds_toArray, List.set_cons_zero, List.set_cons_succ]))
    refine mix_mid (o := _) (by (simp only [List.getElem?_toArray, List.getElem?_cons_succ, List.getElem?_cons_zero]); rfl) ?_
    go_wp2_with fail
    refine (qLen_ev (o := 0) ((HB.drew.v v).k b) rfl rfl (by omega) (by omega)).mono ?_
    rintro e w' ⟨rfl, n, rfl⟩
    go_wp2_with fail
    refine mixQ_in (by exact c2) ?_
    iterate 1 (refine mix_head (o := _) (v := ?_) (by (simp only [List.getElem?_toArray, List.getElem?_cons_succ, List.getElem?_cons_zero]); rfl) (by rfl) (fun w' hS => ?_) ?_; rotate_left 1; (focus ((try dsimp only at hS); (try go_split_ands); go_simp; (try with_reducible rfl))); (try simp only [Act.put, List.setIfInBounds_toArray, List.set_cons_zero, List.set_cons_succ]))
    refine mix_end ?_
    (try dsimp only)
    have hD : Hd w0 (cel b 117 #[v, .int .i64 f, .int .i64 m.most, .int .i64 m.gone] :: Slc 65 9 v (f + (y :: l').length) (gar ++ flat (y :: l')) :: pt w.heap.size (.cells #[.int .i64 x.kind, .int .i64 x.task, .int .i64 x.job, .int .i64 x.op.kind, .int .i64 x.op.res, .int .i64 x.op.n, .int .i64 x.op.v, .int .i64 x.why, .int .i64 x.clock] 65) :: R) (w.alloc (.cells #[.int .i64 x.kind, .int .i64 x.task, .int .i64 x.job, .int .i64 x.op.kind, .int .i64 x.op.res, .int .i64 x.op.n, .int .i64 x.op.v, .int .i64 x.why, .int .i64 x.clock] 65)) := by rw [← hF.out.2.1]; exact HB.re
    go_wp2_with fail
    refine (qTake_ev (C := #[v, .int .i64 f, .int .i64 m.most, .int .i64 m.gone]) (v := v) (o := 0) (f := f) (l := l') (gar := gar) (x := y) (Hd.fol hD) rfl rfl hE.out.2.gar (by omega) (by omega)).mono ?_
    rintro e w2 ⟨rfl, v2, f2, gar2, hg2, hf2, H2⟩
    have H3 : Hd w0 (cel b 117 #[v2, .int .i64 f2, .int .i64 m.most, .int .i64 m.gone] :: Slc 65 9 v2 (f2 + l'.length) (gar2 ++ flat l') :: pt w.heap.size (.cells #[.int .i64 x.kind, .int .i64 x.task, .int .i64 x.job, .int .i64 x.op.kind, .int .i64 x.op.res, .int .i64 x.op.n, .int .i64 x.op.v, .int .i64 x.why, .int .i64 x.clock] 65) :: R) w2 := H2
    have c3 := (H3.k b).rd 3
    have f3 := (H3.k b).fr 3
    clear c2
    have HL : Hd w0 _ (w2.setCell ⟨b, 3, none⟩ (.int .i64 ((m.gone : Int) + 1))) := H3.fol
    have hx := HL.k w.heap.size
    have x0 := hx.rd 0
    have x1 := hx.rd 1
    have x2 := hx.rd 2
    have x3 := hx.rd 3
    have x4 := hx.rd 4
    have x5 := hx.rd 5
    have x6 := hx.rd 6
    have x7 := hx.rd 7
    have x8 := hx.rd 8
    simp only [List.getElem?_toArray, List.getElem?_cons_zero, List.getElem?_cons_succ] at x0 x1 x2 x3 x4 x5 x6 x7 x8
    clear hx
    go_wp2_with fail
    refine wp_region_mix0 [(0, true), (1, true), (2, true), (3, true), (4, false)] (fun w' => w'.cell? ⟨w.heap.size, 0, none⟩ = some (.int .i64 x.kind) ∧ w'.cell? ⟨w.heap.size, 1, none⟩ = some (.int .i64 x.task) ∧ w'.cell? ⟨w.heap.size, 2, none⟩ = some (.int .i64 x.job) ∧ w'.cell? ⟨w.heap.size, 3, none⟩ = some (.int .i64 x.op.kind) ∧ w'.cell? ⟨w.heap.size, 4, none⟩ = some (.int .i64 x.op.res) ∧ w'.cell? ⟨w.heap.size, 5, none⟩ = some (.int .i64 x.op.n) ∧ w'.cell? ⟨w.heap.size, 6, none⟩ = some (.int .i64 x.op.v) ∧ w'.cell? ⟨w.heap.size, 7, none⟩ = some (.int .i64 x.why) ∧ w'.cell? ⟨w.heap.size, 8, none⟩ = some (.int .i64 x.clock)) (by kernel_rfl) (by kernel_rfl) (⟨x0, x1, x2, x3, x4, x5, x6, x7, x8⟩) (fun _ _ d _ _ h => by cases d <;> exact h) ?_
    iterate 4 (refine mix_head (o := _) (v := ?_) (by (simp only [List.getElem?_toArray, List.getElem?_cons_succ, List.getElem?_cons_zero]); rfl) (by rfl) (fun w' hS => ?_) ?_; rotate_left 1; (focus ((try dsimp only at hS); (try go_split_ands); go_simp; (try with_reducible rfl))); (try simp only [Act.put, List.setIfInBounds_toArray, List.set_cons_zero, List.set_cons_succ]))
    refine mix_mid (o := _) (by (simp only [List.getElem?_toArray, List.getElem?_cons_succ, List.getElem?_cons_zero]); rfl) ?_
    go_wp2_with fail
    refine (qPut_ev (o := 0) (f := f2) (l := l') (gar := gar2) (((Hd.fol HL : Hd w0 _ _).v v2).k b) rfl (by omega) (by omega) x).mono ?_
    rintro e w4 ⟨rfl, v4, H4⟩
    have hx := H4.k w.heap.size
    have y0 := hx.rd 0
    have y1 := hx.rd 1
    have y2 := hx.rd 2
    have y3 := hx.rd 3
    have y4 := hx.rd 4
    have y5 := hx.rd 5
    have y6 := hx.rd 6
    have y7 := hx.rd 7
    have y8 := hx.rd 8
    simp only [List.getElem?_toArray, List.getElem?_cons_zero, List.getElem?_cons_succ] at y0 y1 y2 y3 y4 y5 y6 y7 y8
    go_wp2_with fail
    refine mixQ_in ⟨y0, y1, y2, y3, y4, y5, y6, y7, y8⟩ ?_
    refine mix_end ?_
    (try dsimp only)
    go_wp2_with fail
    go_end0
    refine ⟨rfl, RingP.shut (m := ⟨l' ++ [x], m.most, m.gone + 1⟩) (v := v4) (f := f2) (gar := gar2) ?_ ⟨hg2, by simp; omega⟩⟩
    have H5 : Hd w0 (cel b 117 #[v4, .int .i64 f2, .int .i64 m.most, .int .i64 ((m.gone + 1 : Nat) : Int)] :: Slc 65 9 v4 (f2 + (l' ++ [x]).length) (gar2 ++ flat (l' ++ [x])) :: _) w4 := H4
    exact H5.re
  · have e1 : m.put x = ⟨m.l ++ [x], m.most, m.gone⟩ := by unfold RingM.put; rw [if_neg hfull]
    rw [e1]
    have hb : ((m.l.length : Int) == m.most) = false := by rw [beq_eq_false_iff_ne]; omega
    clear hgg
    clear e1
    go_enter Tryz.func56, Tryz.ntmps56
    go_wp2_with fail
    refine wp_region_mix0 [(0, true), (1, true), (2, true), (4, true), (5, true), (6, true), (7, true), (3, false), (8, true)] (fun w' => w'.cell? ⟨b, 2, none⟩ = some (.int .i64 m.most)) (by kernel_rfl) (by kernel_rfl) (c2) (fun _ _ d _ _ h => by cases d <;> exact h) ?_
    iterate 7 (refine mix_head (o := _) (v := ?_) (by (simp only [List.getElem?_toArray, List.getElem?_cons_succ, List.getElem?_cons_zero]); rfl) (by rfl) (fun w' hS => ?_) ?_; rotate_left 1; (focus ((try dsimp only at hS); (try go_split_ands); go_simp; (try with_reducible rfl))); (try simp only [Act.put, List.setIfInBounds_toArray, List.set_cons_zero, List.set_cons_succ]))
    refine mix_mid (o := _) (by (simp only [List.getElem?_toArray, List.getElem?_cons_succ, List.getElem?_cons_zero]); rfl) ?_
    go_wp2_with fail
    refine (qLen_ev (o := 0) ((HB.drew.v v).k b) rfl rfl (by omega) (by omega)).mono ?_
    rintro e w' ⟨rfl, n, rfl⟩
    go_wp2_with fail
    refine mixQ_in (by exact c2) ?_
    iterate 1 (refine mix_head (o := _) (v := ?_) (by (simp only [List.getElem?_toArray, List.getElem?_cons_succ, List.getElem?_cons_zero]); rfl) (by rfl) (fun w' hS => ?_) ?_; rotate_left 1; (focus ((try dsimp only at hS); (try go_split_ands); go_simp; (try with_reducible rfl))); (try simp only [Act.put, List.setIfInBounds_toArray, List.set_cons_zero, List.set_cons_succ]))
    refine mix_end ?_
    (try dsimp only)
    have HL := HB
    have hx := HL.k w.heap.size
    have x0 := hx.rd 0
    have x1 := hx.rd 1
    have x2 := hx.rd 2
    have x3 := hx.rd 3
    have x4 := hx.rd 4
    have x5 := hx.rd 5
    have x6 := hx.rd 6
    have x7 := hx.rd 7
    have x8 := hx.rd 8
    simp only [List.getElem?_toArray, List.getElem?_cons_zero, List.getElem?_cons_succ] at x0 x1 x2 x3 x4 x5 x6 x7 x8
    clear hx
    go_wp2_with fail
    refine wp_region_mix0 [(0, true), (1, true), (2, true), (3, true), (4, false)] (fun w' => w'.cell? ⟨w.heap.size, 0, none⟩ = some (.int .i64 x.kind) ∧ w'.cell? ⟨w.heap.size, 1, none⟩ = some (.int .i64 x.task) ∧ w'.cell? ⟨w.heap.size, 2, none⟩ = some (.int .i64 x.job) ∧ w'.cell? ⟨w.heap.size, 3, none⟩ = some (.int .i64 x.op.kind) ∧ w'.cell? ⟨w.heap.size, 4, none⟩ = some (.int .i64 x.op.res) ∧ w'.cell? ⟨w.heap.size, 5, none⟩ = some (.int .i64 x.op.n) ∧ w'.cell? ⟨w.heap.size, 6, none⟩ = some (.int .i64 x.op.v) ∧ w'.cell? ⟨w.heap.size, 7, none⟩ = some (.int .i64 x.why) ∧ w'.cell? ⟨w.heap.size, 8, none⟩ = some (.int .i64 x.clock)) (by kernel_rfl) (by kernel_rfl) (⟨x0, x1, x2, x3, x4, x5, x6, x7, x8⟩) (fun _ _ d _ _ h => by cases d <;> exact h) ?_
    iterate 4 (refine mix_head (o := _) (v := ?_) (by (simp only [List.getElem?_toArray, List.getElem?_cons_succ, List.getElem?_cons_zero]); rfl) (by rfl) (fun w' hS => ?_) ?_; rotate_left 1; (focus ((try dsimp only at hS); (try go_split_ands); go_simp; (try with_reducible rfl))); (try simp only [Act.put, List.setIfInBounds_toArray, List.set_cons_zero, List.set_cons_succ]))
    refine mix_mid (o := _) (by (simp only [List.getElem?_toArray, List.getElem?_cons_succ, List.getElem?_cons_zero]); rfl) ?_
    go_wp2_with fail
    refine (qPut_ev (o := 0) (f := f) (l := m.l) (gar := gar) (((Hd.fol HL : Hd w0 _ _).v v).k b) rfl (by omega) (by omega) x).mono ?_
    rintro e w4 ⟨rfl, v4, H4⟩
    have hx := H4.k w.heap.size
    have y0 := hx.rd 0
    have y1 := hx.rd 1
    have y2 := hx.rd 2
    have y3 := hx.rd 3
    have y4 := hx.rd 4
    have y5 := hx.rd 5
    have y6 := hx.rd 6
    have y7 := hx.rd 7
    have y8 := hx.rd 8
    simp only [List.getElem?_toArray, List.getElem?_cons_zero, List.getElem?_cons_succ] at y0 y1 y2 y3 y4 y5 y6 y7 y8
    go_wp2_with fail
    refine mixQ_in ⟨y0, y1, y2, y3, y4, y5, y6, y7, y8⟩ ?_
    refine mix_end ?_
    (try dsimp only)
    go_wp2_with fail
    go_end0
    refine ⟨rfl, RingP.shut (m := ⟨m.l ++ [x], m.most, m.gone⟩) (v := v4) (f := f) (gar := gar) ?_ ⟨hE.out.2.gar, by simp; omega⟩⟩
    have H5 : Hd w0 (cel b 117 #[v4, .int .i64 f, .int .i64 m.most, .int .i64 m.gone] :: Slc 65 9 v4 (f + (m.l ++ [x]).length) (gar ++ flat (m.l ++ [x])) :: _) w4 := H4
    exact H5.re
end
end Go.Proofs.YtogcikilphakmaaGreatDoor

/-
  shelf.Levels of waiting jobs over the separation logic: NewLevels, Put, highest, Front, Take, Len. Every number of levels.
-/
namespace Go.Proofs.YtogcikilphakmaaGreatDoor
open Go.RowKit Spl

structure QR where
  v : Value
  f : Nat
  gar : List Value
def QR.c (r : QR) : List Value := [r.v, .int .i64 r.f]
def rowC (rs : List QR) (sp : List Value) : Array Value := (rs.flatMap QR.c ++ sp).toArray
theorem rowL_len (rs : List QR) : (rs.flatMap QR.c).length = 2 * rs.length := by
  induction rs with
  | nil => rfl
  | cons r rs ih => simp only [List.flatMap_cons, List.length_append, ih, List.length_cons, QR.c, List.length_nil]; omega
theorem rowL_at {r : QR} : ∀ {rs : List QR} {i : Nat} (_ : rs[i]? = some r), (rs.flatMap QR.c)[2 * i]? = some r.v ∧ (rs.flatMap QR.c)[2 * i + 1]? = some (.int .i64 r.f) := by
  intro rs
  induction rs with
  | nil => intro i h; simp at h
  | cons a rs ih =>
    intro i h
    cases i with
    | zero => simp at h; subst h; simp [QR.c]
    | succ i =>
      have := ih (i := i) (by simpa using h)
      simp only [List.flatMap_cons, QR.c, Nat.mul_add, Nat.mul_one, List.cons_append, List.nil_append]
      exact this
theorem rowC_at {rs : List QR} {sp : List Value} {i : Nat} {r : QR} (h : rs[i]? = some r) : (rowC rs sp)[i * 2]? = some r.v ∧ (rowC rs sp)[i * 2 + 1]? = some (.int .i64 r.f) := by
  have h1 := rowL_at h
  have h2 := lt_of_get? h
  have h3 := rowL_len rs
  rw [Nat.mul_comm] at h1
  simp only [rowC, List.getElem?_toArray]
  rw [List.getElem?_append_left (by omega), List.getElem?_append_left (by omega)]
  exact h1
theorem rowL_set {r : QR} {v : Value} {f : Nat} {gar : List Value} : ∀ {rs : List QR} {i : Nat} (_ : rs[i]? = some r), ((rs.flatMap QR.c).set (2 * i) v).set (2 * i + 1) (.int .i64 f) = (rs.set i ⟨v, f, gar⟩).flatMap QR.c := by
  intro rs
  induction rs with
  | nil => intro i h; simp at h
  | cons a rs ih =>
    intro i h
    cases i with
    | zero => simp [QR.c]
    | succ i =>
      have := ih (i := i) (by simpa using h)
      simp only [List.flatMap_cons, QR.c, Nat.mul_add, Nat.mul_one, List.cons_append, List.nil_append, List.set_cons_succ]
      rw [← this]
theorem rowC_set {rs : List QR} {sp : List Value} {i : Nat} {r : QR} (h : rs[i]? = some r) (v : Value) (f : Nat) (gar : List Value) : ((rowC rs sp).setIfInBounds (i * 2) v).setIfInBounds (i * 2 + 1) (.int .i64 f) = rowC (rs.set i ⟨v, f, gar⟩) sp := by
  have h2 := lt_of_get? h
  have h3 := rowL_len rs
  rw [Nat.mul_comm]
  simp only [rowC, List.setIfInBounds_toArray]
  rw [List.set_append_left _ _ (by omega), List.set_append_left _ _ (by rw [List.length_set]; omega), rowL_set (gar := gar) h]
theorem rowC_set0 {rs : List QR} {sp : List Value} {i : Nat} {r : QR} (h : rs[i]? = some r) (v : Value) (gar : List Value) : (rowC rs sp).setIfInBounds (i * 2) v = rowC (rs.set i ⟨v, r.f, gar⟩) sp := by
  rw [← rowC_set h v r.f gar]
  have h2 := (rowC_at (sp := sp) h).2
  have h3 : ((rowC rs sp).setIfInBounds (i * 2) v)[i * 2 + 1]? = some (.int .i64 r.f) := by
    rw [Array.getElem?_setIfInBounds_ne (by omega)]; exact h2
  exact (set_same h3).symm
theorem zip_set2 {α β γ : Type} (f : α → β → γ) : ∀ (xs : List α) (bs : List β) (i : Nat) (a : α) (b : β), (List.zipWith f (xs.set i a) (bs.set i b)).eraseIdx i = (List.zipWith f xs bs).eraseIdx i := by
  intro xs
  induction xs with
  | nil => intro bs i a b; simp
  | cons x xs ih =>
    intro bs i a b
    cases bs with
    | nil => cases i <;> simp
    | cons y bs => cases i with
      | zero => simp
      | succ i => simp [ih]

def lq (r : QR) (l : List WaitM) : Pr := all [fact (QOk 3 r.f l.length r.gar), Slc 37 3 r.v (r.f + l.length) (r.gar ++ flat l)]
structure LevF (v : Value) (g n : Nat) (rs : List QR) : Prop where
  v : v = .slice (some ⟨g, 0, none⟩) n n
  l : rs.length = n
def Lev (v : Value) (qs : List (List WaitM)) : Pr := ex fun x : Nat × List QR × List Value => all [fact (LevF v x.1 qs.length x.2.1), cel x.1 258 (rowC x.2.1 x.2.2), all (List.zipWith lq x.2.1 qs)]
instance (v : Value) (qs : List (List WaitM)) : Key (Lev v qs) (.v v) := ⟨trivial⟩

/-- The number of the highest level below n that is not empty; 0: all are. -/
def hiQ (qs : List (List WaitM)) : Nat → Nat
  | 0 => 0
  | k + 1 => if (qs[k]?.getD []).length = 0 then hiQ qs k else k + 1
theorem hiQ_some {qs : List (List WaitM)} : ∀ {n k : Nat} (_ : hiQ qs n = k + 1), ∃ x l, qs[k]? = some (x :: l) := by
  intro n
  induction n with
  | zero => intro k h; simp [hiQ] at h
  | succ n ih =>
    intro k h
    unfold hiQ at h
    split at h
    · exact ih h
    · rename_i hl
      obtain rfl : n = k := by omega
      cases hq : qs[n]? with
      | none => rw [hq] at hl; simp at hl
      | some l => cases l with
        | nil => rw [hq] at hl; simp at hl
        | cons x l => exact ⟨x, l, rfl⟩

section
variable {w0 w : World} {R : List Pr} {v : Value} {qs : List (List WaitM)}
theorem Lev.opened {i : Nat} {l : List WaitM} (H : Hd w0 (Lev v qs :: R) w) (hi : qs[i]? = some l) : ∃ g rs sp r, LevF v g qs.length rs ∧ rs[i]? = some r ∧ QOk 3 r.f l.length r.gar ∧
    Hd w0 (cel g 258 (rowC rs sp) :: Slc 37 3 r.v (r.f + l.length) (r.gar ++ flat l) :: all ((List.zipWith lq rs qs).eraseIdx i) :: R) w := by
  obtain ⟨⟨g, rs, sp⟩, H⟩ := H.out
  have H2 := H.flat
  have hf := Hd.get H2
  obtain ⟨r, hr⟩ : ∃ r, rs[i]? = some r := ⟨rs[i]'(by have h1 : rs.length = qs.length := hf.l; have := lt_of_get? hi; omega), List.getElem?_eq_getElem _⟩
  have H3 : Hd w0 (cel g 258 (rowC rs sp) :: all (List.zipWith lq rs qs) :: R) w := H2.tail
  have H4 := (H3.b2.row_nth hr hi).flat
  exact ⟨g, rs, sp, r, hf, hr, Hd.get H4, H4.tail.b3⟩
theorem Lev.shut {i : Nat} {l l' : List WaitM} {g : Nat} {rs : List QR} {sp : List Value} {r r' : QR} (H : Hd w0 (cel g 258 (rowC (rs.set i r') sp) :: Slc 37 3 r'.v (r'.f + l'.length) (r'.gar ++ flat l') :: all ((List.zipWith lq rs qs).eraseIdx i) :: R) w)
    (hi : qs[i]? = some l) (hf : LevF v g qs.length rs) (hr : rs[i]? = some r) (hq : QOk 3 r'.f l'.length r'.gar) : Hd w0 (Lev v (qs.set i l') :: R) w := by
  have hl1 := lt_of_get? hi
  have hl2 := lt_of_get? hr
  refine Hd.into (g, rs.set i r', sp) (Hd.pack (L := [_, _, _]) (Hd.put ⟨by rw [List.length_set]; exact hf.v, by simp [hf.l]⟩ ?_))
  have H1 : Hd w0 (lq r' l' :: all ((List.zipWith lq rs qs).eraseIdx i) :: cel g 258 (rowC (rs.set i r') sp) :: R) w := Hd.pack (L := [_, _]) (Hd.put hq H.d3)
  rw [← zip_set2 lq rs qs i r' l'] at H1
  exact (H1.all_back (by simp [List.getElem?_zipWith, hl1, hl2])).b2
theorem Lev.same {i : Nat} {l : List WaitM} {g : Nat} {rs : List QR} {sp : List Value} {r : QR} (H : Hd w0 (cel g 258 (rowC rs sp) :: Slc 37 3 r.v (r.f + l.length) (r.gar ++ flat l) :: all ((List.zipWith lq rs qs).eraseIdx i) :: R) w)
    (hi : qs[i]? = some l) (hf : LevF v g qs.length rs) (hr : rs[i]? = some r) (hq : QOk 3 r.f l.length r.gar) : Hd w0 (Lev v qs :: R) w := by
  refine Hd.into (g, rs, sp) (Hd.pack (L := [_, _, _]) (Hd.put hf ?_))
  have H1 : Hd w0 (lq r l :: all ((List.zipWith lq rs qs).eraseIdx i) :: cel g 258 (rowC rs sp) :: R) w := Hd.pack (L := [_, _]) (Hd.put hq H.d3)
  exact (H1.row_same hr hi).b2
end

section
variable {w0 w : World} {R : List Pr} {b o T : Nat} {C : Array Value} {v : Value} {qs : List (List WaitM)}
theorem levForm (H : Hd w0 (Lev v qs :: R) w) : ∃ g, v = .slice (some ⟨g, 0, none⟩) qs.length qs.length := by
  obtain ⟨⟨g, rs, sp⟩, H⟩ := H.out
  exact ⟨g, (Hd.get H.flat).v⟩

set_option maxHeartbeats 800000 in
theorem levPut {i : Nat} {l : List WaitM} (H : Hd w0 (cel b T C :: Lev v qs :: R) w) (hC : C[o]? = some v) (hi : qs[i]? = some l) (hn : l.length ≤ 10000) (h32 : qs.length ≤ 32) (x : WaitM) :
    Calls Tryz.prog 93 #[.pointer (some ⟨b, o, none⟩), .int .i64 ((i : Int) + 1), .agg #[.int .i64 x.job, .int .i64 x.task, .int .i64 x.level]] w fun e w' =>
      e = .returned (.int .i64 0) ∧ Hd w0 (cel b T C :: Lev v (qs.set i (l ++ [x])) :: R) w' := by
  obtain ⟨g, rs, sp, r, hf, hr, hq, H1⟩ := Lev.opened H.b2 hi
  obtain rfl := hf.v
  have hlt := lt_of_get? hi
  have hle := hq.le
  have HB : Hd w0 _ (w.alloc (.cells #[.int .i64 x.job, .int .i64 x.task, .int .i64 x.level] 37)) := H1.fol
  have c0 := (HB.k b).ce o hC
  have x0 := (HB.k w.heap.size).rd 0
  have x1 := (HB.k w.heap.size).rd 1
  have x2 := (HB.k w.heap.size).rd 2
  simp only [List.getElem?_toArray, List.getElem?_cons_zero, List.getElem?_cons_succ] at x0 x1 x2
  have g1 : ((i : Int) + 1 < 1) = False := by simp; omega
  have g2 : decide ((qs.length : Int) < (i : Int) + 1) = false := by simp; omega
  have g3 : IntKind.i64.wrap (i : Int) = i := IntWalk.i64_in _ (by omega)
  have n0 : ¬ ((i : Int) < 0) := by omega
  have n1 : (i : Int) < qs.length := by omega
  have n2 : ¬ qs.length ≤ i := by omega
  have hE := Lib.hid (And.intro hf (And.intro hr hq))
  clear H hf hr hq H1 h32
  go_enter Tryz.func93, Tryz.ntmps93
  go_wp2_with fail
  refine wp_region_mix0 [(0, true), (1, true), (2, true), (3, true), (4, true), (5, true), (6, true), (7, true), (8, false)] (fun w' => w'.cell? ⟨b, o, none⟩ = some (.slice (some ⟨g, 0, none⟩) qs.length qs.length) ∧ w'.cell? ⟨w.heap.size, 0, none⟩ = some (.int .i64 x.job) ∧ w'.cell? ⟨w.heap.size, 1, none⟩ = some (.int .i64 x.task) ∧ w'.cell? ⟨w.heap.size, 2, none⟩ = some (.int .i64 x.level)) (by kernel_rfl) (by kernel_rfl) (⟨c0, x0, x1, x2⟩) (fun _ _ d _ _ h => by cases d <;> exact h) ?_
  iterate 8 (refine mix_head (o := _) (v := ?_) (by (simp only [List.getElem?_toArray, List.getElem?_cons_succ, List.getElem?_cons_zero]); rfl) (by rfl) (fun w' hS => ?_) ?_; rotate_left 1; (focus ((try dsimp only at hS); (try go_split_ands); go_simp; (try with_reducible rfl))); (try simp only [Act.put, List.setIfInBounds_toArray, List.set_cons_zero, List.set_cons_succ]))
  refine mix_mid (o := _) (by (simp only [List.getElem?_toArray, List.getElem?_cons_succ, List.getElem?_cons_zero]); rfl) ?_
  go_wp2_with fail
  refine (qPut_wait (C := rowC rs sp) (v := r.v) (o := i * 2) (f := r.f) (l := l) (gar := r.gar) ((((Hd.fol HB : Hd w0 _ _).v r.v).k g)) (rowC_at hE.out.2.1).1 (by omega) (by omega) x).mono ?_
  rintro e w2 ⟨rfl, v', H2⟩
  rw [rowC_set0 hE.out.2.1 v' r.gar] at H2
  have d0 := (H2.k b).ce o hC
  have y0 := (H2.k w.heap.size).rd 0
  have y1 := (H2.k w.heap.size).rd 1
  have y2 := (H2.k w.heap.size).rd 2
  simp only [List.getElem?_toArray, List.getElem?_cons_zero, List.getElem?_cons_succ] at y0 y1 y2
  go_wp2_with fail
  refine mixQ_in ⟨d0, y0, y1, y2⟩ ?_
  refine mix_end ?_
  (try dsimp only)
  go_wp2_with fail
  go_ret
  refine ⟨rfl, ?_⟩
  have H3 := Lev.shut (l := l) (l' := l ++ [x]) (r' := ⟨v', r.f, r.gar⟩) (i := i) (rs := rs) (sp := sp) (qs := qs) (R := cel b T C :: R) (H2.re) hi hE.out.1 hE.out.2.1 ⟨hE.out.2.2.gar, by simp; omega⟩
  exact H3.b2

set_option maxHeartbeats 800000 in
theorem levHi (H : Hd w0 (cel b T C :: Lev v qs :: R) w) (hC : C[o]? = some v) (hn : ∀ l ∈ qs, l.length ≤ 10000) (h32 : qs.length ≤ 32) :
    Calls Tryz.prog 151 #[.pointer (some ⟨b, o, none⟩)] w fun e w' =>
      e = .returned (.int .i64 (hiQ qs qs.length)) ∧ ∃ n, w' = w.drewN n := by
  obtain ⟨g, rfl⟩ := levForm H.b2
  have c0 := (H.rd o).trans hC
  have hO := Lib.hid (And.intro H (And.intro hC hn))
  clear H hC hn
  go_enter Tryz.func151, Tryz.ntmps151
  go_wp2
  go_loopw [3] (fun i wr => ∃ k n : Nat, k ≤ qs.length ∧ i = .int .i64 k ∧ hiQ qs qs.length = hiQ qs k ∧ wr = w.drewN n) (fun i _ => (intOf i).toNat)
  case atStart => exact ⟨qs.length, 0, Nat.le_refl _, rfl, rfl, rfl⟩
  case round =>
    obtain ⟨k, n, hk, rfl, hh, rfl⟩ := hrel
    cases k with
    | zero =>
      go_wp2
      go_ret
      exact ⟨by rw [hh]; rfl, n, rfl⟩
    | succ k =>
      obtain ⟨l, hl⟩ : ∃ l, qs[k]? = some l := ⟨qs[k]'(by omega), List.getElem?_eq_getElem _⟩
      have hln := hO.out.2.2 l (List.mem_of_getElem? hl)
      obtain ⟨g2, rs, sp, r, hf, hr, hq, H1⟩ := Lev.opened hO.out.1.b2 hl
      have hle := hq.le
      obtain rfl : g = g2 := by have := hf.v; injection this with h1 _ _; injection h1 with h1; injection h1
      have hr2 := rowC_at (sp := sp) hr
      have hcall := qLen_wait (C := rowC rs sp) (v := r.v) (o := k * 2) (f := r.f) (l := l) (gar := r.gar) (((Hd.fol H1 : Hd w0 _ (w.drewN n)).v r.v).k g) hr2.1 hr2.2 (by omega) (by omega)
      have g3 : IntKind.i64.wrap (k : Int) = k := IntWalk.i64_in _ (by omega)
      have n0 : ¬ ((k : Int) < 0) := by omega
      have n1 : (k : Int) < qs.length := by omega
      have n2 : ¬ qs.length ≤ k := by omega
      have n4 : (0 : Int) < (k : Int) + 1 := by omega
      by_cases h0 : l.length = 0
      · have e1 : hiQ qs (k + 1) = hiQ qs k := by simp [hiQ, hl, h0]
        rw [e1] at hh
        rw [h0] at hcall
        clear H1 hr hr2 hq hf e1 h0 hle hln hl
        go_wp2_with fail
        refine hcall.mono ?_
        rintro e w' ⟨rfl, n', rfl⟩
        clear hcall
        go_wp2_with fail
        go_roundw
        case rel => exact ⟨k, _, by omega, rfl, hh, rfl⟩
        case measure => simp [intOf]
      · have e1 : hiQ qs (k + 1) = k + 1 := by simp [hiQ, hl, h0]
        rw [e1] at hh
        have n5 : (0 : Int) < l.length := by omega
        clear H1 hr hr2 hq hf e1 hle hln hl
        go_wp2_with fail
        refine hcall.mono ?_
        rintro e w' ⟨rfl, n', rfl⟩
        clear hcall
        go_wp2_with fail
        go_ret
        exact ⟨by rw [hh]; rfl, _, rfl⟩
end
end Go.Proofs.YtogcikilphakmaaGreatDoor

/-
  shelf.Queue: List. Every queue.
-/
namespace Go.Proofs.YtogcikilphakmaaGreatDoor
open Go.RowKit Spl
section
variable {w0 w : World} {R : List Pr} {s o T : Nat} {C : Array Value} {v : Value} {l : List EvM} {f : Nat} {gar : List Value}

set_option maxRecDepth 20000 in
set_option maxHeartbeats 4000000 in
theorem qList_ev (H : Hd w0 (cel s T C :: Slc 65 9 v (f + l.length) (gar ++ flat l) :: R) w) (hC : C[o]? = some v) (hC1 : C[o + 1]? = some (.int .i64 f)) (hg : gar.length = f * 9) (hf : f ≤ 100000) (hn : l.length ≤ 100000) :
    Calls Tryz.prog 71 #[.pointer (some ⟨s, o, none⟩)] w fun e w' => ∃ g, e = .returned (.slice (some ⟨g, 0, none⟩) l.length l.length) ∧ Hd w0 (SlEC 65 g l.length l :: cel s T C :: Slc 65 9 v (f + l.length) (gar ++ flat l) :: R) w' := by
  have c0 := (H.rd o).trans hC
  have c1 := (H.rd (o + 1)).trans hC1
  rcases H.b2.slc with ⟨rfl, hz, -, -⟩ | ⟨g, cap, rfl, H1⟩
  · have hl0 : l.length = 0 := by omega
    have hl : l = [] := List.eq_nil_of_length_eq_zero hl0
    have hf0 : f = 0 := by omega
    subst hl
    subst hf0
    clear hl0 hz
    have HD := H.drew
    have hcp := copied_ev (l := ([] : List EvM)) (A := none) (cap := 0) HD (by simp) rfl (by simp) (fun _ _ _ _ _ hj => by cases hj)
    have hC' := Lib.hid hC
    have hC1' := Lib.hid hC1
    clear hC hC1
    go_enter Tryz.func71, Tryz.ntmps71
    go_wp2_with fail
    refine wp_region_mix 10 [(0, true), (1, true), (2, true), (3, true), (4, true), (5, true), (6, true), (7, true), (8, true), (9, false)] (fun w' => w'.cell? ⟨s, o, none⟩ = some (.slice none 0 0) ∧ w'.cell? ⟨s, o + 1, none⟩ = some (.int .i64 (0 : Nat))) (by kernel_rfl) (by kernel_rfl) (⟨c0, c1⟩) (fun _ _ d _ _ h => by cases d <;> exact h) ?_
    simp only [List.drop_succ_cons, List.drop_zero]
    iterate 9 (refine mix_head (o := _) (v := ?_) (by (simp only [List.getElem?_toArray, List.getElem?_cons_succ, List.getElem?_cons_zero]); rfl) (by rfl) (fun w' hS => ?_) ?_; rotate_left 1; (focus ((try dsimp only at hS); (try go_split_ands); go_simp; (try with_reducible rfl))); (try simp only [Act.put, List.setIfInBounds_toArray, List.set_cons_zero, List.set_cons_succ]))
    refine mix_mid (o := _) (by (simp only [List.getElem?_toArray, List.getElem?_cons_succ, List.getElem?_cons_zero]); rfl) ?_
    go_wp2_with fail
    refine hcp.mono ?_
    rintro e w1 ⟨g5, rfl, H2⟩
    clear hcp
    go_wp2_with fail
    refine mixQ_in ⟨((H2.b2.rd o).trans hC'.out), ((H2.b2.rd (o + 1)).trans hC1'.out)⟩ ?_
    refine mix_end ?_
    (try dsimp only)
    go_wp2_with fail
    go_ret
    exact ⟨g5, rfl, H2⟩
  · obtain ⟨hxl, hnc, hcm, sp, hsp, H3⟩ := H1.slcC
    by_cases hcf : cap = f
    · have hl0 : l.length = 0 := by omega
      have hl : l = [] := List.eq_nil_of_length_eq_zero hl0
      subst hl
      subst hcf
      have m1 : ¬ (cap : Int) < 0 := by omega
      have m2 : (0 : Int) ≤ cap := by omega
      clear hl0
      have HD := H.drew
      have hcp := copied_ev (l := ([] : List EvM)) (A := some ⟨g, 0, none⟩) (cap := 0) HD (by simp) rfl (by simp) (fun _ _ _ _ _ hj => by cases hj)
      have hC' := Lib.hid hC
      have hC1' := Lib.hid hC1
      clear hC hC1
      go_enter Tryz.func71, Tryz.ntmps71
      go_wp2_with fail
      refine wp_region_mix 10 [(0, true), (1, true), (2, true), (3, true), (4, true), (5, true), (6, true), (7, true), (8, true), (9, false)] (fun w' => w'.cell? ⟨s, o, none⟩ = some (.slice (some ⟨g, 0, none⟩) (cap + ([] : List EvM).length) cap) ∧ w'.cell? ⟨s, o + 1, none⟩ = some (.int .i64 cap)) (by kernel_rfl) (by kernel_rfl) (⟨c0, c1⟩) (fun _ _ d _ _ h => by cases d <;> exact h) ?_
      simp only [List.drop_succ_cons, List.drop_zero]
      iterate 9 (refine mix_head (o := _) (v := ?_) (by (simp only [List.getElem?_toArray, List.getElem?_cons_succ, List.getElem?_cons_zero]); rfl) (by rfl) (fun w' hS => ?_) ?_; rotate_left 1; (focus ((try dsimp only at hS); (try go_split_ands); go_simp; (try with_reducible rfl))); (try simp only [Act.put, List.setIfInBounds_toArray, List.set_cons_zero, List.set_cons_succ]))
      refine mix_mid (o := _) (by (simp only [List.getElem?_toArray, List.getElem?_cons_succ, List.getElem?_cons_zero]); rfl) ?_
      go_wp2_with fail
      refine hcp.mono ?_
      rintro e w1 ⟨g5, rfl, H2⟩
      clear hcp
      go_wp2_with fail
      refine mixQ_in ⟨((H2.b2.rd o).trans hC'.out), ((H2.b2.rd (o + 1)).trans hC1'.out)⟩ ?_
      refine mix_end ?_
      (try dsimp only)
      go_wp2_with fail
      go_ret
      exact ⟨g5, rfl, H2⟩
    · have m1 : (f : Int) ≤ cap := by omega
      have m2 : ¬ (f : Int) < 0 := by omega
      have m3 : (0 : Int) ≤ f := by omega
      have m4 : f ≤ cap := by omega
      have m5 : ¬ cap - f = 0 := by omega
      have m6 : f + l.length - f = l.length := by omega
      have m7 : (f : Int) ≤ (f : Int) + l.length := by omega
      have m8 : f ≤ f + l.length := by omega
      have m9 : ¬ cap = f := hcf
      have HD := H.drew
      have hcp := copied_ev (l := l) (A := some ⟨g, f * 9, none⟩) (cap := cap - f) HD hn rfl (by simp) (by
        intro w1 h ad had j u hj
        obtain rfl := Option.some.inj had
        have h2 := h.b2.slc_news.2 _ rfl (f * 9 + j) u (by rw [← hg, List.getElem?_append_right (Nat.le_add_right _ _), Nat.add_sub_cancel_left]; exact hj)
        rw [Addr.add_lit] at h2 ⊢
        rw [Nat.zero_add] at h2
        exact h2)
      have hn' := Lib.hid hn
      have hC' := Lib.hid hC
      have hC1' := Lib.hid hC1
      clear hn hC hC1
      go_enter Tryz.func71, Tryz.ntmps71
      go_wp2_with fail
      refine wp_region_mix 10 [(0, true), (1, true), (2, true), (3, true), (4, true), (5, true), (6, true), (7, true), (8, true), (9, false)] (fun w' => w'.cell? ⟨s, o, none⟩ = some (.slice (some ⟨g, 0, none⟩) (f + l.length) cap) ∧ w'.cell? ⟨s, o + 1, none⟩ = some (.int .i64 f)) (by kernel_rfl) (by kernel_rfl) (⟨c0, c1⟩) (fun _ _ d _ _ h => by cases d <;> exact h) ?_
      simp only [List.drop_succ_cons, List.drop_zero]
      iterate 9 (refine mix_head (o := _) (v := ?_) (by (simp only [List.getElem?_toArray, List.getElem?_cons_succ, List.getElem?_cons_zero]); rfl) (by rfl) (fun w' hS => ?_) ?_; rotate_left 1; (focus ((try dsimp only at hS); (try go_split_ands); go_simp; (try with_reducible rfl))); (try simp only [Act.put, List.setIfInBounds_toArray, List.set_cons_zero, List.set_cons_succ]))
      refine mix_mid (o := _) (by (simp only [List.getElem?_toArray, List.getElem?_cons_succ, List.getElem?_cons_zero]); rfl) ?_
      go_wp2_with fail
      refine hcp.mono ?_
      rintro e w1 ⟨g5, rfl, H2⟩
      clear hcp
      go_wp2_with fail
      refine mixQ_in ⟨((H2.b2.rd o).trans hC'.out), ((H2.b2.rd (o + 1)).trans hC1'.out)⟩ ?_
      refine mix_end ?_
      (try dsimp only)
      go_wp2_with fail
      go_ret
      exact ⟨g5, rfl, H2⟩
end
section
variable {w0 w : World} {R : List Pr} {s o T : Nat} {C : Array Value} {v : Value} {l : List WaitM} {f : Nat} {gar : List Value}

set_option maxRecDepth 20000 in
set_option maxHeartbeats 4000000 in
theorem qList_wait (H : Hd w0 (cel s T C :: Slc 37 3 v (f + l.length) (gar ++ flat l) :: R) w) (hC : C[o]? = some v) (hC1 : C[o + 1]? = some (.int .i64 f)) (hg : gar.length = f * 3) (hf : f ≤ 100000) (hn : l.length ≤ 100000) :
    Calls Tryz.prog 155 #[.pointer (some ⟨s, o, none⟩)] w fun e w' => ∃ g, e = .returned (.slice (some ⟨g, 0, none⟩) l.length l.length) ∧ Hd w0 (SlEC 37 g l.length l :: cel s T C :: Slc 37 3 v (f + l.length) (gar ++ flat l) :: R) w' := by
  have c0 := (H.rd o).trans hC
  have c1 := (H.rd (o + 1)).trans hC1
  rcases H.b2.slc with ⟨rfl, hz, -, -⟩ | ⟨g, cap, rfl, H1⟩
  · have hl0 : l.length = 0 := by omega
    have hl : l = [] := List.eq_nil_of_length_eq_zero hl0
    have hf0 : f = 0 := by omega
    subst hl
    subst hf0
    clear hl0 hz
    have HD := H.drew
    have hcp := copied_wait (l := ([] : List WaitM)) (A := none) (cap := 0) HD (by simp) rfl (by simp) (fun _ _ _ _ _ hj => by cases hj)
    have hC' := Lib.hid hC
    have hC1' := Lib.hid hC1
    clear hC hC1
    go_enter Tryz.func155, Tryz.ntmps155
    go_wp2_with fail
    refine wp_region_mix 10 [(0, true), (1, true), (2, true), (3, true), (4, true), (5, true), (6, true), (7, true), (8, true), (9, false)] (fun w' => w'.cell? ⟨s, o, none⟩ = some (.slice none 0 0) ∧ w'.cell? ⟨s, o + 1, none⟩ = some (.int .i64 (0 : Nat))) (by kernel_rfl) (by kernel_rfl) (⟨c0, c1⟩) (fun _ _ d _ _ h => by cases d <;> exact h) ?_
    simp only [List.drop_succ_cons, List.drop_zero]
    iterate 9 (refine mix_head (o := _) (v := ?_) (by (simp only [List.getElem?_toArray, List.getElem?_cons_succ, List.getElem?_cons_zero]); rfl) (by rfl) (fun w' hS => ?_) ?_; rotate_left 1; (focus ((try dsimp only at hS); (try go_split_ands); go_simp; (try with_reducible rfl))); (try simp only [Act.put, List.setIfInBounds_toArray, List.set_cons_zero, List.set_cons_succ]))
    refine mix_mid (o := _) (by (simp only [List.getElem?_toArray, List.getElem?_cons_succ, List.getElem?_cons_zero]); rfl) ?_
    go_wp2_with fail
    refine hcp.mono ?_
    rintro e w1 ⟨g5, rfl, H2⟩
    clear hcp
    go_wp2_with fail
    refine mixQ_in ⟨((H2.b2.rd o).trans hC'.out), ((H2.b2.rd (o + 1)).trans hC1'.out)⟩ ?_
    refine mix_end ?_
    (try dsimp only)
    go_wp2_with fail
    go_ret
    exact ⟨g5, rfl, H2⟩
  · obtain ⟨hxl, hnc, hcm, sp, hsp, H3⟩ := H1.slcC
    by_cases hcf : cap = f
    · have hl0 : l.length = 0 := by omega
      have hl : l = [] := List.eq_nil_of_length_eq_zero hl0
      subst hl
      subst hcf
      have m1 : ¬ (cap : Int) < 0 := by omega
      have m2 : (0 : Int) ≤ cap := by omega
      clear hl0
      have HD := H.drew
      have hcp := copied_wait (l := ([] : List WaitM)) (A := some ⟨g, 0, none⟩) (cap := 0) HD (by simp) rfl (by simp) (fun _ _ _ _ _ hj => by cases hj)
      have hC' := Lib.hid hC
      have hC1' := Lib.hid hC1
      clear hC hC1
      go_enter Tryz.func155, Tryz.ntmps155
      go_wp2_with fail
      refine wp_region_mix 10 [(0, true), (1, true), (2, true), (3, true), (4, true), (5, true), (6, true), (7, true), (8, true), (9, false)] (fun w' => w'.cell? ⟨s, o, none⟩ = some (.slice (some ⟨g, 0, none⟩) (cap + ([] : List WaitM).length) cap) ∧ w'.cell? ⟨s, o + 1, none⟩ = some (.int .i64 cap)) (by kernel_rfl) (by kernel_rfl) (⟨c0, c1⟩) (fun _ _ d _ _ h => by cases d <;> exact h) ?_
      simp only [List.drop_succ_cons, List.drop_zero]
      iterate 9 (refine mix_head (o := _) (v := ?_) (by (simp only [List.getElem?_toArray, List.getElem?_cons_succ, List.getElem?_cons_zero]); rfl) (by rfl) (fun w' hS => ?_) ?_; rotate_left 1; (focus ((try dsimp only at hS); (try go_split_ands); go_simp; (try with_reducible rfl))); (try simp only [Act.put, List.setIfInBounds_toArray, List.set_cons_zero, List.set_cons_succ]))
      refine mix_mid (o := _) (by (simp only [List.getElem?_toArray, List.getElem?_cons_succ, List.getElem?_cons_zero]); rfl) ?_
      go_wp2_with fail
      refine hcp.mono ?_
      rintro e w1 ⟨g5, rfl, H2⟩
      clear hcp
      go_wp2_with fail
      refine mixQ_in ⟨((H2.b2.rd o).trans hC'.out), ((H2.b2.rd (o + 1)).trans hC1'.out)⟩ ?_
      refine mix_end ?_
      (try dsimp only)
      go_wp2_with fail
      go_ret
      exact ⟨g5, rfl, H2⟩
    · have m1 : (f : Int) ≤ cap := by omega
      have m2 : ¬ (f : Int) < 0 := by omega
      have m3 : (0 : Int) ≤ f := by omega
      have m4 : f ≤ cap := by omega
      have m5 : ¬ cap - f = 0 := by omega
      have m6 : f + l.length - f = l.length := by omega
      have m7 : (f : Int) ≤ (f : Int) + l.length := by omega
      have m8 : f ≤ f + l.length := by omega
      have m9 : ¬ cap = f := hcf
      have HD := H.drew
      have hcp := copied_wait (l := l) (A := some ⟨g, f * 3, none⟩) (cap := cap - f) HD hn rfl (by simp) (by
        intro w1 h ad had j u hj
        obtain rfl := Option.some.inj had
        have h2 := h.b2.slc_news.2 _ rfl (f * 3 + j) u (by rw [← hg, List.getElem?_append_right (Nat.le_add_right _ _), Nat.add_sub_cancel_left]; exact hj)
        rw [Addr.add_lit] at h2 ⊢
        rw [Nat.zero_add] at h2
        exact h2)
      have hn' := Lib.hid hn
      have hC' := Lib.hid hC
      have hC1' := Lib.hid hC1
      clear hn hC hC1
      go_enter Tryz.func155, Tryz.ntmps155
      go_wp2_with fail
      refine wp_region_mix 10 [(0, true), (1, true), (2, true), (3, true), (4, true), (5, true), (6, true), (7, true), (8, true), (9, false)] (fun w' => w'.cell? ⟨s, o, none⟩ = some (.slice (some ⟨g, 0, none⟩) (f + l.length) cap) ∧ w'.cell? ⟨s, o + 1, none⟩ = some (.int .i64 f)) (by kernel_rfl) (by kernel_rfl) (⟨c0, c1⟩) (fun _ _ d _ _ h => by cases d <;> exact h) ?_
      simp only [List.drop_succ_cons, List.drop_zero]
      iterate 9 (refine mix_head (o := _) (v := ?_) (by (simp only [List.getElem?_toArray, List.getElem?_cons_succ, List.getElem?_cons_zero]); rfl) (by rfl) (fun w' hS => ?_) ?_; rotate_left 1; (focus ((try dsimp only at hS); (try go_split_ands); go_simp; (try with_reducible rfl))); (try simp only [Act.put, List.setIfInBounds_toArray, List.set_cons_zero, List.set_cons_succ]))
      refine mix_mid (o := _) (by (simp only [List.getElem?_toArray, List.getElem?_cons_succ, List.getElem?_cons_zero]); rfl) ?_
      go_wp2_with fail
      refine hcp.mono ?_
      rintro e w1 ⟨g5, rfl, H2⟩
      clear hcp
      go_wp2_with fail
      refine mixQ_in ⟨((H2.b2.rd o).trans hC'.out), ((H2.b2.rd (o + 1)).trans hC1'.out)⟩ ?_
      refine mix_end ?_
      (try dsimp only)
      go_wp2_with fail
      go_ret
      exact ⟨g5, rfl, H2⟩
end
end Go.Proofs.YtogcikilphakmaaGreatDoor
