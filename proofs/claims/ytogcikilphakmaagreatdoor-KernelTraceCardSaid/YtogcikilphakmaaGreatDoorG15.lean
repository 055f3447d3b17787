/-
  Merged texts of one proof: LockS, QueueM, Rel1.
-/
import Derived.BigQuiet
import Derived.Deep.QuietTactic
import Derived.Lib.Hide
import Derived.StillTailTactics
import Derived.Test.YtogcikilphakmaaGreatDoorG02
import Derived.Test.YtogcikilphakmaaGreatDoorG03
import Derived.Test.YtogcikilphakmaaGreatDoorG06
import Derived.Test.YtogcikilphakmaaGreatDoorG14
import Derived.Test.YtogcikilphakmaaGreatDoorRows

/-
  shelf.Stack of locks: Top, Pop; of started jobs: List.
-/
namespace Go.Proofs.YtogcikilphakmaaGreatDoor
open Go.RowKit Spl

section
variable {w0 w : World} {R : List Pr} {s o T : Nat} {C : Array Value} {v : Value} {l : List LockM}
set_option maxRecDepth 20000 in
set_option maxHeartbeats 800000 in
theorem stkTop_lock {x : LockM} (H : Hd w0 (cel s T C :: SlE 296 v (l ++ [x]) :: R) w) (hC : C[o]? = some v) (hn : l.length < 100000) :
    Calls Tryz.prog 180 #[.pointer (some ⟨s, o, none⟩)] w fun e w' => e = .returned (.tuple #[.agg #[.int .i64 x.res, .int .i64 x.units], .bool true]) ∧ Hd w0 (cel s T C :: SlE 296 v (l ++ [x]) :: R) w' := by
  have hlen : (l ++ [x]).length = l.length + 1 := by simp
  have HA : Hd w0 _ (w.alloc (.cells #[.int .i64 0, .int .i64 0] 296)) := H.fol
  have hat := stkAt_lock (o := o) HA.d3 hC (by omega) l.length x (by simp)
  obtain ⟨g, cap, rfl, H2⟩ := HA.b3.slc_at (by omega)
  have c0 := (H2.k s).ce o hC
  rw [hlen] at c0
  have hw : IntKind.i64.wrap (l.length : Int) = l.length := IntWalk.i64_in _ (by omega)
  clear H H2 HA hC
  go_enter Tryz.func180, Tryz.ntmps180
  go_wp2_with fail
  refine hat.mono ?_
  rintro e w1 ⟨rfl, H1⟩
  have y0 := (H1.k w.heap.size).rd 0
  have y1 := (H1.k w.heap.size).rd 1
  simp only [List.getElem?_toArray, List.getElem?_cons_zero, List.getElem?_cons_succ] at y0 y1
  have z0 := (H1.k w.heap.size).fr 0
  have z1 := (H1.k w.heap.size).fr 1
  go_wp2_with fail
  (try simp only [Exit.inBlock, Exit.then])
  refine bodyPost_ret (results_row_tmp rfl _ _ w.heap.size 296 #[.int .i64 x.res, .int .i64 x.units] (0, 0) _ rfl (by exact ((Hd.fol H1 : Hd w0 _ _).k w.heap.size).heap) Tryz.underlying296 rfl (by kernel_rfl)) rfl ⟨rfl, ?_⟩
  exact Hd.fin H1

set_option maxRecDepth 20000 in
set_option maxHeartbeats 1600000 in
theorem stkPop_lock {x : LockM} (H : Hd w0 (cel s T C :: SlE 296 v (l ++ [x]) :: R) w) (hC : C[o]? = some v) (hn : l.length < 100000) :
    Calls Tryz.prog 192 #[.pointer (some ⟨s, o, none⟩)] w fun e w' => e = .returned (.tuple #[.agg #[.int .i64 x.res, .int .i64 x.units], .bool true]) ∧ ∃ v', Hd w0 (cel s T (C.setIfInBounds o v') :: SlE 296 v' l :: R) w' := by
  have hlen : (l ++ [x]).length = l.length + 1 := by simp
  have HA : Hd w0 _ (w.alloc (.cells #[.int .i64 0, .int .i64 0] 296)) := H.fol
  have htop := stkTop_lock (o := o) HA.d3 hC hn
  have hw : IntKind.i64.wrap (l.length : Int) = l.length := IntWalk.i64_in _ (by omega)
  have hw1 : IntKind.i64.wrap ((l.length : Int) + 1 - 1) = l.length := by rw [IntWalk.i64_in _ (by omega)]; omega
  have hlt : (l.length : Int) < (l.length : Int) + 1 := by omega
  replace hlen := Lib.hid hlen
  clear H HA
  go_enter Tryz.func192, Tryz.ntmps192
  go_wp2_with fail
  refine htop.mono ?_
  rintro e w1 ⟨rfl, H1⟩
  clear htop
  have H2 : Hd w0 _ ((w1.alloc (.cells #[.int .i64 x.res, .int .i64 x.units] 296)).alloc (.cells #[.int .i64 0, .int .i64 0] 296)) := H1.fol
  obtain ⟨g, cap, rfl, H3⟩ := (H2.v v).slc_at (by rw [hlen.out]; omega)
  have hcap := H3.slcC.2.1
  rw [hlen.out] at hcap
  have c0 := (H3.k s).ce o hC
  rw [hlen.out] at c0
  have p0 := (H3.k (w1.heap.size + 1)).rd 0
  have p1 := (H3.k (w1.heap.size + 1)).rd 1
  simp only [List.getElem?_toArray, List.getElem?_cons_zero, List.getElem?_cons_succ] at p0 p1
  have cg0 := (H3.k g).slcC_rd (flat_at (l := l ++ [x]) (k := l.length) (x := x) (by simp) (j := 0) (u := .int .i64 x.res) rfl)
  have cg1 := (H3.k g).slcC_rd (flat_at (l := l ++ [x]) (k := l.length) (x := x) (by simp) (j := 1) (u := .int .i64 x.units) rfl)
  simp only [Enc.size, Nat.add_zero] at cg0 cg1
  have fg0 := (H3.k g).slcC_fr (l.length * 2)
  have fg1 := (H3.k g).slcC_fr (l.length * 2 + 1)
  have e1 : (((flat (l ++ [x])).set (l.length * 2) (.int .i64 0)).set (l.length * 2 + 1) (.int .i64 0)).take (l.length * 2) = flat l := by
    have e2 : (flat l).length = l.length * 2 := flat_len l
    rw [List.take_set_of_le (by omega), List.take_set_of_le (by omega), flat_append, List.take_left' e2]
  have hfl : (flat (l ++ [x])).length = l.length * 2 + 2 := by rw [flat_len, hlen.out]; simp [Enc.size]; omega
  have H4 := ((H3.k g).slcC_set (j := l.length * 2) (by omega) (.int .i64 0)).slcC_set (j := l.length * 2 + 1) (by rw [List.length_set]; omega) (.int .i64 0)
  have H5 := H4.slcC_cut (k := l.length) (c := cap) (by rw [hlen.out]; omega) (by omega) (Nat.le_refl _)
  have H5 : Hd w0 (SlcC 296 2 g l.length cap ((((flat (l ++ [x])).set (l.length * 2) (.int .i64 0)).set (l.length * 2 + 1) (.int .i64 0)).take (l.length * 2)) :: _) _ := H5
  rw [e1] at H5
  have d0 := (H5.k s).ce o hC
  rw [hlen.out] at d0
  have d1 := (H5.k s).fr o
  have H6 := ((H5.k s).set o (.slice (some ⟨g, 0, none⟩) l.length cap))
  have q0 := (H6.k w1.heap.size).rd 0
  have q1 := (H6.k w1.heap.size).rd 1
  simp only [List.getElem?_toArray, List.getElem?_cons_zero, List.getElem?_cons_succ] at q0 q1
  have r0 := (H6.k w.heap.size).rd 0
  have r1 := (H6.k w.heap.size).rd 1
  simp only [List.getElem?_toArray, List.getElem?_cons_zero, List.getElem?_cons_succ] at r0 r1
  have f0 := (H6.k w.heap.size).fr 0
  have f1 := (H6.k w.heap.size).fr 1
  have hlc : l.length ≤ cap := by omega
  clear H1 H2 H3 H4 H5 e1 hfl hC
  go_wp2_with fail
  refine wp_region_still_tail 11 (by kernel_rfl) (by kernel_rfl) ?_
  simp only [List.take_succ_cons, List.take_zero, List.drop_succ_cons, List.drop_zero, World.drew_eq]
  (repeat still_step)
  refine wpStill_nil ?_
  go_wp2_with fail
  refine wp_region_still_tail 14 (by kernel_rfl) (by kernel_rfl) ?_
  simp only [List.take_succ_cons, List.take_zero, List.drop_succ_cons, List.drop_zero, World.drew_eq]
  (repeat still_step)
  refine wpStill_nil ?_
  go_wp2_with fail
  (try simp only [Exit.inBlock, Exit.then])
  refine bodyPost_ret (results_row_tmp rfl _ _ w.heap.size 296 #[.int .i64 x.res, .int .i64 x.units] (0, 0) _ rfl (by exact ((Hd.fol H6 : Hd w0 _ _).k w.heap.size).heap) Tryz.underlying296 rfl (by kernel_rfl)) rfl ⟨rfl, .slice (some ⟨g, 0, none⟩) l.length cap, ?_⟩
  exact ((Hd.fol H6 : Hd w0 _ _).k g).slc_mk.re
end
section
variable {w0 w : World} {R : List Pr} {s o T : Nat} {C : Array Value} {v : Value} {l : List Ptr}
set_option maxHeartbeats 800000 in
theorem copied_started (H : Hd w0 R w) (hn : l.length ≤ 100000) {n : Nat} (hnl : n = l.length) {A : Option Addr} {cap : Nat} (hA : A = none → l.length = 0)
    (hs : ∀ {w1 : World}, Hd w0 R w1 → ∀ ad, A = some ad → ∀ (j : Nat) (u : Value), (flat l)[j]? = some u → w1.cell? (ad.add j) = some u) :
    Calls Tryz.prog 102 #[.slice A n cap] w fun e w' => ∃ g, e = .returned (.slice (some ⟨g, 0, none⟩) l.length l.length) ∧ Hd w0 (SlEC 158 g l.length l :: R) w' := by
  subst hnl
  obtain ⟨i0, hi, hz0, hz1, hz2⟩ := info_parts stkInfo_started
  go_enter Tryz.func102, Tryz.ntmps102
  go_wp2_with (first | (at_make; refine wpList_make_slc rfl _ _ 90 rfl 158 i0 _ 1 Tryz.underlying90 hi hz0 hz1 rfl _ _ _ _ 0 l.length rfl rfl rfl rfl (by omega) (by rw [hz2]; omega) (by unfold maxLen; omega) H ?_; intro w1 H1; rw [madeCells_zero] at H1; have hs1 := hs H1.tail) | (at_builtin; refine wpList_append_fits_any_slc rfl _ _ 90 rfl 158 i0 1 Tryz.underlying90 hi hz1 _ 0 l.length [] rfl H1 _ l.length _ (flat l) rfl (flat_len l) hA hs1 (flat_oneCell l) (by omega) ?_; intro w2 H2; rw [Nat.zero_add]))
  go_ret
  exact ⟨_, rfl, by rw [List.nil_append, Nat.zero_add] at H2; exact H2⟩
theorem stkList_started (H : Hd w0 (cel s T C :: SlE 158 v l :: R) w) (hC : C[o]? = some v) (hn : l.length ≤ 100000) :
    Calls Tryz.prog 66 #[.pointer (some ⟨s, o, none⟩)] w fun e w' => ∃ g, e = .returned (.slice (some ⟨g, 0, none⟩) l.length l.length) ∧ Hd w0 (SlEC 158 g l.length l :: cel s T C :: SlE 158 v l :: R) w' := by
  have c0 := H.ce o hC
  obtain ⟨a, cap, rfl, _, _, _, _⟩ := H.b2.slc_form
  have hnews : ∀ {w1 : World}, Hd w0 (cel s T C :: SlE 158 (.slice a l.length cap) l :: R) w1 → (a = none → l.length = 0) ∧ ∀ ad, a = some ad → ∀ (j : Nat) (u : Value), (flat l)[j]? = some u → w1.cell? (ad.add j) = some u := fun h => h.b2.slc_news
  have hcall := copied_started H hn rfl (A := a) (cap := cap) (hnews H).1 (fun h => (hnews h).2)
  clear hnews H hC
  go_enter Tryz.func66, Tryz.ntmps66
  go_wp2_with fail
  refine hcall.mono ?_
  rintro e w' ⟨g, rfl, H1⟩
  go_wp2_with fail
  go_ret
  exact ⟨g, rfl, H1⟩
end
end Go.Proofs.YtogcikilphakmaaGreatDoor

/-
  queue.Queue over the separation logic: New, Put, Next, Take.
-/
namespace Go.Proofs.YtogcikilphakmaaGreatDoor
open Go.RowKit Spl

structure WqM where
  qs : List (List WaitM)
  act : List Int
structure WqM.Ok (m : WqM) : Prop where
  q : m.qs.length = 32
  a : m.act.length = 64
  l : ∀ l ∈ m.qs, l.length ≤ 1000
  c : ∀ x ∈ m.act, 0 ≤ x ∧ x ≤ 8
def WqM.empty : WqM := ⟨emptyQ 32, List.replicate 64 0⟩
def WqM.putE (m : WqM) (t l j : Int) : Int := if t < 0 ∨ t ≥ 64 ∨ l < 1 ∨ l > 32 ∨ j < 0 then 1 else if m.act[t.toNat]?.getD 0 ≥ 8 then 4 else 0
def WqM.put (m : WqM) (t l j : Int) : WqM := if m.putE t l j = 0 then ⟨m.qs.set (l - 1).toNat (m.qs[(l - 1).toNat]?.getD [] ++ [⟨j, t, l⟩]), m.act.set t.toNat (m.act[t.toNat]?.getD 0 + 1)⟩ else m
def WqM.next (m : WqM) : Option WaitM := match hiQ m.qs m.qs.length with | 0 => none | k + 1 => (m.qs[k]?.getD []).head?
def WqM.take (m : WqM) : WqM := match hiQ m.qs m.qs.length with | 0 => m | k + 1 => match m.qs[k]?.getD [] with
  | [] => m
  | x :: l => ⟨m.qs.set k l, m.act.set x.task.toNat (m.act[x.task.toNat]?.getD 0 - 1)⟩
def WqP (b : Nat) (m : WqM) : Pr := ex fun v : Value => all [cel b 183 (v :: m.act.map (Value.int .i64)).toArray, Lev v m.qs]
instance (b : Nat) (m : WqM) : Key (WqP b m) (.b b) := ⟨trivial⟩
section
variable {w0 w : World} {R : List Pr} {b : Nat} {m : WqM}
theorem WqP.opened (H : Hd w0 (WqP b m :: R) w) : ∃ v, Hd w0 (cel b 183 (v :: m.act.map (Value.int .i64)).toArray :: Lev v m.qs :: R) w := by
  obtain ⟨v, H⟩ := H.out
  exact ⟨v, H.flat⟩
theorem WqP.shut {v : Value} (H : Hd w0 (cel b 183 (v :: m.act.map (Value.int .i64)).toArray :: Lev v m.qs :: R) w) : Hd w0 (WqP b m :: R) w :=
  Hd.into v (Hd.pack (L := [_, _]) H)

theorem wqZero : Tryz.zeroCells183 = (.slice none 0 0 :: (List.replicate 64 (0 : Int)).map (Value.int .i64)).toArray := by kernel_rfl
theorem wqNew (H : Hd w0 R w) : Calls Tryz.prog 45 #[] w fun e w' => ∃ b, e = .returned (.pointer (some ⟨b, 0, none⟩)) ∧ Hd w0 (WqP b WqM.empty :: R) w' := by
  go_enter Tryz.func45, Tryz.ntmps45
  go_wp2_with fail
  refine (levNew H).mono ?_
  rintro e w1 ⟨b, v, rfl, H1⟩
  have c0 := (H1.k b).ce 0 rfl
  go_wp2_with fail
  go_ret
  refine ⟨_, rfl, WqP.shut (v := v) ?_⟩
  rw [wqZero, List.setIfInBounds_toArray, List.set_cons_zero]
  show Hd w0 (cel w1.heap.size 183 (v :: (List.replicate 64 (0 : Int)).map (Value.int .i64)).toArray :: Lev v (emptyQ 32) :: R) _
  exact (Hd.fin H1)

set_option maxRecDepth 20000 in
set_option maxHeartbeats 1600000 in
theorem wqPut (H : Hd w0 (WqP b m :: R) w) (hm : m.Ok) (t l j : Int) : Calls Tryz.prog 59 #[.pointer (some ⟨b, 0, none⟩), .int .i64 t, .int .i64 l, .int .i64 j] w fun e w' => e = .returned (.int .i64 (m.putE t l j)) ∧ Hd w0 (WqP b (m.put t l j) :: R) w' := by
  obtain ⟨v, H1⟩ := WqP.opened H
  by_cases h1 : t < 0 ∨ t ≥ 64 ∨ l < 1 ∨ l > 32 ∨ j < 0
  · have e1 : m.putE t l j = 1 := by unfold WqM.putE; rw [if_pos h1]
    have e2 : m.put t l j = m := by unfold WqM.put; rw [e1]; rfl
    rw [e1, e2]
    clear H1 e1 e2
    go_enter Tryz.func59, Tryz.ntmps59
    by_cases a1 : t < 0
    · go_wp2
      go_ret
      exact ⟨rfl, H⟩
    · by_cases a2 : t ≥ 64
      · go_wp2
        go_ret
        exact ⟨rfl, H⟩
      · by_cases a3 : l < 1
        · go_wp2
          go_ret
          exact ⟨rfl, H⟩
        · by_cases a4 : l > 32
          · go_wp2
            go_ret
            exact ⟨rfl, H⟩
          · have a5 : j < 0 := by omega
            go_wp2
            go_ret
            exact ⟨rfl, H⟩
  · obtain ⟨tn, rfl⟩ : ∃ tn : Nat, t = tn := ⟨t.toNat, by omega⟩
    obtain ⟨ln, rfl⟩ : ∃ ln : Nat, l = (ln : Int) + 1 := ⟨(l - 1).toNat, by omega⟩
    have a1 : ¬ ((tn : Int) < 0) := by omega
    have a2 : ¬ ((tn : Int) ≥ 64) := by omega
    have a3 : ¬ ((ln : Int) + 1 < 1) := by omega
    have a4 : ¬ ((ln : Int) + 1 > 32) := by omega
    have a5 : ¬ (j < 0) := by omega
    have e0 : m.putE tn ((ln : Int) + 1) j = if m.act[tn]?.getD 0 ≥ 8 then 4 else 0 := by unfold WqM.putE; rw [if_neg h1, Int.toNat_natCast]
    obtain ⟨a, ha⟩ : ∃ a, m.act[tn]? = some a := ⟨m.act[tn]'(by have := hm.a; omega), List.getElem?_eq_getElem _⟩
    have hC : ((v :: m.act.map (Value.int .i64)).toArray)[1 + tn]? = some (.int .i64 a) := by simp [Nat.add_comm 1 tn, ha]
    have c0 := H1.ce (1 + tn) hC
    have c1 := H1.fr (1 + tn)
    clear h1
    by_cases h2 : a ≥ 8
    · have e1 : m.putE tn ((ln : Int) + 1) j = 4 := by rw [e0, ha]; simp; omega
      have e2 : m.put tn ((ln : Int) + 1) j = m := by unfold WqM.put; rw [e1]; rfl
      rw [e1, e2]
      clear H1 e0 e1 e2 c1 hm
      go_enter Tryz.func59, Tryz.ntmps59
      go_wp2
      go_ret
      exact ⟨rfl, H⟩
    · have e1 : m.putE tn ((ln : Int) + 1) j = 0 := by rw [e0, ha]; simp; omega
      obtain ⟨l0, hl⟩ : ∃ l0, m.qs[ln]? = some l0 := ⟨m.qs[ln]'(by have := hm.q; omega), List.getElem?_eq_getElem _⟩
      have hb := hm.c a (List.mem_of_getElem? ha)
      have g1 : IntKind.i64.wrap (a + 1) = a + 1 := IntWalk.i64_in _ (by omega)
      have e2 : m.put tn ((ln : Int) + 1) j = ⟨m.qs.set ln (l0 ++ [⟨j, tn, (ln : Int) + 1⟩]), m.act.set tn (a + 1)⟩ := by
        unfold WqM.put
        have e3 : ((ln : Int) + 1 - 1).toNat = ln := by omega
        rw [e1, if_pos rfl, e3, Int.toNat_natCast, ha, hl]
        rfl
      rw [e1, e2]
      have H2 : Hd w0 _ (w.setCell ⟨b, 1 + tn, none⟩ (.int .i64 (a + 1))) := H1.fol
      have e4 : ((v :: m.act.map (Value.int .i64)).toArray).setIfInBounds (1 + tn) (.int .i64 (a + 1)) = (v :: (m.act.set tn (a + 1)).map (Value.int .i64)).toArray := by
        rw [List.setIfInBounds_toArray, Nat.add_comm 1 tn, List.set_cons_succ, List.map_set]
      rw [e4] at H2
      have hput := levPut (i := ln) (l := l0) (C := (v :: (m.act.set tn (a + 1)).map (Value.int .i64)).toArray) (o := 0) (v := v) (qs := m.qs) H2.drew rfl hl (by have := hm.l _ (List.mem_of_getElem? hl); omega) (by have := hm.q; omega) ⟨j, tn, (ln : Int) + 1⟩
      clear H H1 H2 hC e0 e1 e2 e4 hm hb ha hl
      go_enter Tryz.func59, Tryz.ntmps59
      go_wp2_with fail
      refine wp_region_still_tail 10 (by kernel_rfl) (by kernel_rfl) ?_
      simp only [List.take_succ_cons, List.take_zero, List.drop_succ_cons, List.drop_zero, World.drew_eq]
      (repeat still_step)
      refine wpStill_nil ?_
      go_wp2_with fail
      refine hput.mono ?_
      rintro e w' ⟨rfl, H3⟩
      go_wp2_with fail
      go_ret
      exact ⟨rfl, WqP.shut H3⟩

set_option maxRecDepth 20000 in
set_option maxHeartbeats 1600000 in
theorem wqNext {x : WaitM} (H : Hd w0 (WqP b m :: R) w) (hm : m.Ok) (hx : m.next = some x) : Calls Tryz.prog 94 #[.pointer (some ⟨b, 0, none⟩)] w fun e w' => e = .returned (.tuple #[.agg #[.int .i64 x.job, .int .i64 x.task, .int .i64 x.level], .bool true]) ∧ Hd w0 (WqP b m :: R) w' := by
  obtain ⟨v, H1⟩ := WqP.opened H
  obtain ⟨k, l, hh, hk⟩ : ∃ k l, hiQ m.qs m.qs.length = k + 1 ∧ m.qs[k]? = some (x :: l) := by
    unfold WqM.next at hx
    split at hx
    · cases hx
    · rename_i k hh
      obtain ⟨y, l, hk⟩ := hiQ_some hh
      rw [hk] at hx
      simp at hx
      exact ⟨k, l, hh, by rw [hk, hx]⟩
  have HA : Hd w0 _ (w.alloc (.cells #[.int .i64 0, .int .i64 0, .int .i64 0] 37)) := H1.fol
  have hcall := levFront (o := 0) ((HA.v v).k b) rfl (fun l hl => by have := hm.l l hl; omega) (by have := hm.q; omega) hh hk
  clear H H1 HA hm hx hh hk
  go_enter Tryz.func94, Tryz.ntmps94
  go_wp2_with fail
  refine hcall.mono ?_
  rintro e w1 ⟨rfl, H1⟩
  clear hcall
  have H4 : Hd w0 _ (w1.alloc (.cells #[.int .i64 x.job, .int .i64 x.task, .int .i64 x.level] 37)) := H1.fol
  have x0 := (H4.k w1.heap.size).rd 0
  have x1 := (H4.k w1.heap.size).rd 1
  have x2 := (H4.k w1.heap.size).rd 2
  simp only [List.getElem?_toArray, List.getElem?_cons_zero, List.getElem?_cons_succ] at x0 x1 x2
  have y0 := (H4.k w.heap.size).rd 0
  have y1 := (H4.k w.heap.size).rd 1
  have y2 := (H4.k w.heap.size).rd 2
  simp only [List.getElem?_toArray, List.getElem?_cons_zero, List.getElem?_cons_succ] at y0 y1 y2
  have z0 := (H4.k w.heap.size).fr 0
  have z1 := (H4.k w.heap.size).fr 1
  have z2 := (H4.k w.heap.size).fr 2
  go_wp2_with fail
  (try simp only [Exit.inBlock, Exit.then])
  refine bodyPost_ret (results_row_tmp rfl _ _ w.heap.size 37 #[.int .i64 x.job, .int .i64 x.task, .int .i64 x.level] (0, 0) _ rfl (by exact ((Hd.fol H4 : Hd w0 _ _).k w.heap.size).heap) Tryz.underlying37 rfl (by kernel_rfl)) rfl ⟨rfl, ?_⟩
  exact WqP.shut (v := v) (Hd.fin H4)

set_option maxRecDepth 20000 in
set_option maxHeartbeats 1600000 in
theorem wqNextNo (H : Hd w0 (WqP b m :: R) w) (hm : m.Ok) (hx : m.next = none) : Calls Tryz.prog 94 #[.pointer (some ⟨b, 0, none⟩)] w fun e w' => e = .returned (.tuple #[.agg #[.int .i64 0, .int .i64 0, .int .i64 0], .bool false]) ∧ Hd w0 (WqP b m :: R) w' := by
  obtain ⟨v, H1⟩ := WqP.opened H
  have hh : hiQ m.qs m.qs.length = 0 := by
    unfold WqM.next at hx
    split at hx
    · rename_i h; exact h
    · rename_i k hh
      obtain ⟨y, l, hk⟩ := hiQ_some hh
      rw [hk] at hx
      simp at hx
  have HA : Hd w0 _ (w.alloc (.cells #[.int .i64 0, .int .i64 0, .int .i64 0] 37)) := H1.fol
  have hcall := levFrontNo (o := 0) ((HA.v v).k b) rfl (fun l hl => by have := hm.l l hl; omega) (by have := hm.q; omega) hh
  clear H H1 HA hm hx hh
  go_enter Tryz.func94, Tryz.ntmps94
  go_wp2_with fail
  refine hcall.mono ?_
  rintro e w1 ⟨rfl, H1⟩
  clear hcall
  have H4 : Hd w0 _ (w1.alloc (.cells #[.int .i64 0, .int .i64 0, .int .i64 0] 37)) := H1.fol
  have x0 := (H4.k w1.heap.size).rd 0
  have x1 := (H4.k w1.heap.size).rd 1
  have x2 := (H4.k w1.heap.size).rd 2
  simp only [List.getElem?_toArray, List.getElem?_cons_zero, List.getElem?_cons_succ] at x0 x1 x2
  have y0 := (H4.k w.heap.size).rd 0
  have y1 := (H4.k w.heap.size).rd 1
  have y2 := (H4.k w.heap.size).rd 2
  simp only [List.getElem?_toArray, List.getElem?_cons_zero, List.getElem?_cons_succ] at y0 y1 y2
  have z0 := (H4.k w.heap.size).fr 0
  have z1 := (H4.k w.heap.size).fr 1
  have z2 := (H4.k w.heap.size).fr 2
  go_wp2_with fail
  (try simp only [Exit.inBlock, Exit.then])
  refine bodyPost_ret (results_row_tmp rfl _ _ w.heap.size 37 #[.int .i64 0, .int .i64 0, .int .i64 0] (0, 0) _ rfl (by exact ((Hd.fol H4 : Hd w0 _ _).k w.heap.size).heap) Tryz.underlying37 rfl (by kernel_rfl)) rfl ⟨rfl, ?_⟩
  exact WqP.shut (v := v) (Hd.fin H4)

set_option maxRecDepth 20000 in
set_option maxHeartbeats 1600000 in
theorem wqTake {x : WaitM} (H : Hd w0 (WqP b m :: R) w) (hm : m.Ok) (hx : m.next = some x) (ht : 0 ≤ x.task ∧ x.task < 64) : Calls Tryz.prog 61 #[.pointer (some ⟨b, 0, none⟩)] w fun e w' => e = .returned (.tuple #[.agg #[.int .i64 x.job, .int .i64 x.task, .int .i64 x.level], .bool true]) ∧ Hd w0 (WqP b m.take :: R) w' := by
  obtain ⟨v, H1⟩ := WqP.opened H
  obtain ⟨k, l, hh, hk⟩ : ∃ k l, hiQ m.qs m.qs.length = k + 1 ∧ m.qs[k]? = some (x :: l) := by
    unfold WqM.next at hx
    split at hx
    · cases hx
    · rename_i k hh
      obtain ⟨y, l, hk⟩ := hiQ_some hh
      rw [hk] at hx
      simp at hx
      exact ⟨k, l, hh, by rw [hk, hx]⟩
  obtain ⟨tn, htn⟩ : ∃ tn : Nat, x.task = tn := ⟨x.task.toNat, by omega⟩
  obtain ⟨a, ha⟩ : ∃ a, m.act[tn]? = some a := ⟨m.act[tn]'(by have := hm.a; omega), List.getElem?_eq_getElem _⟩
  have hb := hm.c a (List.mem_of_getElem? ha)
  have e2 : m.take = ⟨m.qs.set k l, m.act.set tn (a - 1)⟩ := by
    unfold WqM.take
    simp only [hh, hk, Option.getD_some, htn, Int.toNat_natCast, ha]
  rw [e2]
  have HA : Hd w0 _ (w.alloc (.cells #[.int .i64 0, .int .i64 0, .int .i64 0] 37)) := H1.fol
  have hcall := levTake (o := 0) ((HA.v v).k b) rfl (fun l hl => by have := hm.l l hl; omega) (by have := hm.q; omega) hh hk
  have hC : ((v :: m.act.map (Value.int .i64)).toArray)[1 + tn]? = some (.int .i64 a) := by simp [Nat.add_comm 1 tn, ha]
  have g1 : IntKind.i64.wrap (a - 1) = a - 1 := IntWalk.i64_in _ (by omega)
  have g2 : (tn : Int) < 64 := by omega
  have e4 : ((v :: m.act.map (Value.int .i64)).toArray).setIfInBounds (1 + tn) (.int .i64 (a - 1)) = (v :: (m.act.set tn (a - 1)).map (Value.int .i64)).toArray := by
    rw [List.setIfInBounds_toArray, Nat.add_comm 1 tn, List.set_cons_succ, List.map_set]
  rw [htn] at hcall ⊢
  replace e4 := Lib.hid e4
  clear H H1 HA hm hx hh hk hb ht e2 ha
  go_enter Tryz.func61, Tryz.ntmps61
  go_wp2_with fail
  refine hcall.mono ?_
  rintro e w1 ⟨rfl, H1⟩
  clear hcall
  have H4 : Hd w0 _ (w1.alloc (.cells #[.int .i64 x.job, .int .i64 tn, .int .i64 x.level] 37)) := H1.fol
  have c0 := (H4.k b).ce (1 + tn) hC
  have c1 := (H4.k b).fr (1 + tn)
  have y0 := (H4.k w1.heap.size).rd 0
  have y1 := (H4.k w1.heap.size).rd 1
  have y2 := (H4.k w1.heap.size).rd 2
  simp only [List.getElem?_toArray, List.getElem?_cons_zero, List.getElem?_cons_succ] at y0 y1 y2
  have H5 : Hd w0 _ ((w1.alloc (.cells #[.int .i64 x.job, .int .i64 tn, .int .i64 x.level] 37)).setCell ⟨b, 1 + tn, none⟩ (.int .i64 (a - 1))) := H4.fol
  rw [e4.out] at H5
  clear H4
  have p0 := (H5.k w1.heap.size).rd 0
  have p1 := (H5.k w1.heap.size).rd 1
  have p2 := (H5.k w1.heap.size).rd 2
  simp only [List.getElem?_toArray, List.getElem?_cons_zero, List.getElem?_cons_succ] at p0 p1 p2
  have q0 := (H5.k w.heap.size).rd 0
  have q1 := (H5.k w.heap.size).rd 1
  have q2 := (H5.k w.heap.size).rd 2
  simp only [List.getElem?_toArray, List.getElem?_cons_zero, List.getElem?_cons_succ] at q0 q1 q2
  have r0 := (H5.k w.heap.size).fr 0
  have r1 := (H5.k w.heap.size).fr 1
  have r2 := (H5.k w.heap.size).fr 2
  go_wp2_with fail
  refine wp_region_still_tail 11 (by kernel_rfl) (by kernel_rfl) ?_
  simp only [List.take_succ_cons, List.take_zero, List.drop_succ_cons, List.drop_zero, World.drew_eq]
  (repeat still_step)
  refine wpStill_nil ?_
  go_wp2_with fail
  (try simp only [Exit.inBlock, Exit.then])
  refine bodyPost_ret (results_row_tmp rfl _ _ w.heap.size 37 #[.int .i64 x.job, .int .i64 tn, .int .i64 x.level] (0, 0) _ rfl (by exact ((Hd.fol H5 : Hd w0 _ _).k w.heap.size).heap) Tryz.underlying37 rfl (by kernel_rfl)) rfl ⟨rfl, ?_⟩
  refine WqP.shut (v := v) ?_
  show Hd w0 (cel b 183 (v :: (m.act.set tn (a - 1)).map (Value.int .i64)).toArray :: Lev v (m.qs.set k l) :: R) _
  exact (Hd.fin H5)

set_option maxRecDepth 20000 in
set_option maxHeartbeats 1600000 in
theorem wqTakeNo (H : Hd w0 (WqP b m :: R) w) (hm : m.Ok) (hx : m.next = none) : Calls Tryz.prog 61 #[.pointer (some ⟨b, 0, none⟩)] w fun e w' => e = .returned (.tuple #[.agg #[.int .i64 0, .int .i64 0, .int .i64 0], .bool false]) ∧ Hd w0 (WqP b m :: R) w' := by
  obtain ⟨v, H1⟩ := WqP.opened H
  have hh : hiQ m.qs m.qs.length = 0 := by
    unfold WqM.next at hx
    split at hx
    · rename_i h; exact h
    · rename_i k hh
      obtain ⟨y, l, hk⟩ := hiQ_some hh
      rw [hk] at hx
      simp at hx
  have HA : Hd w0 _ (w.alloc (.cells #[.int .i64 0, .int .i64 0, .int .i64 0] 37)) := H1.fol
  have hcall := levTakeNo (o := 0) ((HA.v v).k b) rfl (fun l hl => by have := hm.l l hl; omega) (by have := hm.q; omega) hh
  clear H H1 HA hm hx hh
  go_enter Tryz.func61, Tryz.ntmps61
  go_wp2_with fail
  refine hcall.mono ?_
  rintro e w1 ⟨rfl, H1⟩
  clear hcall
  have H4 : Hd w0 _ (w1.alloc (.cells #[.int .i64 0, .int .i64 0, .int .i64 0] 37)) := H1.fol
  have x0 := (H4.k w1.heap.size).rd 0
  have x1 := (H4.k w1.heap.size).rd 1
  have x2 := (H4.k w1.heap.size).rd 2
  simp only [List.getElem?_toArray, List.getElem?_cons_zero, List.getElem?_cons_succ] at x0 x1 x2
  have y0 := (H4.k w.heap.size).rd 0
  have y1 := (H4.k w.heap.size).rd 1
  have y2 := (H4.k w.heap.size).rd 2
  simp only [List.getElem?_toArray, List.getElem?_cons_zero, List.getElem?_cons_succ] at y0 y1 y2
  have z0 := (H4.k w.heap.size).fr 0
  have z1 := (H4.k w.heap.size).fr 1
  have z2 := (H4.k w.heap.size).fr 2
  go_wp2_with fail
  (try simp only [Exit.inBlock, Exit.then])
  refine bodyPost_ret (results_row_tmp rfl _ _ w.heap.size 37 #[.int .i64 0, .int .i64 0, .int .i64 0] (0, 0) _ rfl (by exact ((Hd.fol H4 : Hd w0 _ _).k w.heap.size).heap) Tryz.underlying37 rfl (by kernel_rfl)) rfl ⟨rfl, ?_⟩
  exact WqP.shut (v := v) (Hd.fin H4)
end
end Go.Proofs.YtogcikilphakmaaGreatDoor

/-
  Package release over the separation logic: a clock's tasks in memory; Len, Push, At, List of its stack; New, Now, of. Every argument.
-/
namespace Go.Proofs.YtogcikilphakmaaGreatDoor
open Go.RowKit Spl

theorem infoPat : (Tryz.prog.info? 134).map (fun i => (i.zero, i.size, i.bytes)) = some (some (.pointer none), 1, 8) := by kernel_rfl
theorem infoInt : (Tryz.prog.info? 3).map (fun i => (i.zero, i.size, i.bytes)) = some (some (.int .i64 0), 1, 8) := by kernel_rfl

def pp (b : Nat) : Value := .pointer (some ⟨b, 0, none⟩)

section
variable {w0 w : World} {R : List Pr} {s o T : Nat} {C : Array Value} {v : Value} {n : Nat} {xs : List Value}

/-- (*Stack[*pattern]).Len -/
theorem patLen (H : Hd w0 (cel s T C :: Slc 134 1 v n xs :: R) w) (hC : C[o]? = some v) :
    Calls Tryz.prog 53 #[.pointer (some ⟨s, o, none⟩)] w fun e w' => e = .returned (.int .i64 n) ∧ w = w' := by
  have c0 : w.cell? ⟨s, o, none⟩ = some v := (H.rd o).trans hC
  obtain ⟨a, cap, rfl, _, _, _, _⟩ := H.b2.slc_form
  go_enter Tryz.func53, Tryz.ntmps53
  go_wp2
  go_ret
  exact ⟨rfl, rfl⟩

/-- (*Stack[*pattern]).Push -/
theorem patPush (H : Hd w0 (cel s T C :: Slc 134 1 v n xs :: R) w) (hC : C[o]? = some v) (hn : n ≤ 1000000) (b : Nat) :
    Calls Tryz.prog 55 #[.pointer (some ⟨s, o, none⟩), pp b] w fun e w' =>
      e = .returned (.tuple #[]) ∧ ∃ v', Hd w0 (cel s T (C.setIfInBounds o v') :: Slc 134 1 v' (n + 1) (xs ++ [pp b]) :: R) w' := by
  have c0 : w.cell? ⟨s, o, none⟩ = some v := (H.rd o).trans hC
  obtain ⟨i0, hi, hz0, hz1, hz2⟩ := info_parts infoPat
  have H2 := (H.alloc (.cells #[pp b] 134)).b3
  unfold pp at H2 ⊢
  go_enter Tryz.func55, Tryz.ntmps55
  go_wp2_with (at_builtin; refine wpList_append_slc rfl _ _ 118 rfl 134 i0 _ 1 8 Tryz.underlying118 hi hz0 hz1 hz2 rfl v n xs rfl H2 ⟨w.heap.size, 0, none⟩ 1 1 [pp b] rfl rfl (cell_one_new _ _ _) (by simp [pp, Value.oneCell']) (by unfold maxLen; omega) (by omega) ?_; intro v' w1 H3; obtain ⟨a', cap', rfl, _, _, _, _⟩ := H3.slc_form; have c1 := H3.b3.rd; have f1 := H3.b3.fr)
  go_end0
  exact ⟨rfl, _, (H3.b3.set o _).b3.tail⟩

/-- (*Stack[*pattern]).At, where there is an element -/
theorem patAt_in (H : Hd w0 (cel s T C :: Slc 134 1 v n xs :: R) w) (hC : C[o]? = some v) (hn : n ≤ 1000000) (i : Nat) (b : Nat) (hx : xs[i]? = some (pp b)) :
    Calls Tryz.prog 91 #[.pointer (some ⟨s, o, none⟩), .int .i64 i] w fun e w' => e = .returned (.tuple #[pp b, .bool true]) ∧ w = w' := by
  have c0 : w.cell? ⟨s, o, none⟩ = some v := (H.rd o).trans hC
  have hl := H.b2.slc_len
  have hi : i < n := by have := lt_of_get? hx; omega
  obtain ⟨g, cap, rfl, H2⟩ := H.b2.slc_at (by omega)
  have c1 := H2.slcC_rd hx
  unfold pp at c1 ⊢
  clear H H2 hx hl hC
  go_enter Tryz.func91, Tryz.ntmps91
  go_wp2
  go_ret2
  exact ⟨rfl, rfl⟩
/-- (*Stack[*pattern]).At, where there is none -/
theorem patAt_out (H : Hd w0 (cel s T C :: Slc 134 1 v n xs :: R) w) (hC : C[o]? = some v) (i : Int) (h : i < 0 ∨ n ≤ i) :
    Calls Tryz.prog 91 #[.pointer (some ⟨s, o, none⟩), .int .i64 i] w fun e w' => e = .returned (.tuple #[.pointer none, .bool false]) ∧ w = w' := by
  have c0 : w.cell? ⟨s, o, none⟩ = some v := (H.rd o).trans hC
  obtain ⟨a, cap, rfl, _, _, _, _⟩ := H.b2.slc_form
  clear H hC
  rcases h with h | h
  · go_enter Tryz.func91, Tryz.ntmps91
    go_wp2
    go_ret2
    exact ⟨rfl, rfl⟩
  · have h0 : ¬ i < 0 := by omega
    go_enter Tryz.func91, Tryz.ntmps91
    go_wp2
    go_ret2
    exact ⟨rfl, rfl⟩
end

section
variable {w0 w : World} {R : List Pr} {s o T : Nat} {C : Array Value} {v : Value} {n : Nat} {xs : List Value}
/-- shelf.copied[*pattern]: the same cells in a new block without spare room. -/
theorem patCopied (H : Hd w0 (Slc 134 1 v n xs :: R) w) (hn : n ≤ 1000000) (h1 : ∀ u ∈ xs, u.oneCell' = true) :
    Calls Tryz.prog 100 #[v] w fun e w' => ∃ g, e = .returned (.slice (some ⟨g, 0, none⟩) n n) ∧
      Hd w0 (SlcC 134 1 g n n xs :: Slc 134 1 v n xs :: R) w' := by
  obtain ⟨i0, hi, hz0, hz1, hz2⟩ := info_parts infoPat
  obtain ⟨a, cap, rfl, hcap, hcm, hl, hc⟩ := H.slc_form
  go_enter Tryz.func100, Tryz.ntmps100
  go_wp2_with (first | (at_make; refine wpList_make_slc rfl _ _ 118 rfl 134 i0 _ 1 Tryz.underlying118 hi hz0 hz1 rfl _ _ _ _ 0 n rfl rfl rfl rfl (by omega) (by rw [hz2]; omega) (by unfold maxLen; omega) H ?_; intro w1 H1; rw [madeCells_zero] at H1; obtain ⟨hs1, hs2⟩ := H1.b2.slc_news) | (at_builtin; refine wpList_append_fits_any_slc rfl _ _ 118 rfl 134 i0 1 Tryz.underlying118 hi hz1 _ 0 n [] rfl H1 _ n _ xs rfl hl hs1 hs2 h1 (by omega) ?_; intro w2 H2; rw [Nat.zero_add]))
  go_ret
  exact ⟨_, rfl, by simpa using H2⟩
end
end Go.Proofs.YtogcikilphakmaaGreatDoor
