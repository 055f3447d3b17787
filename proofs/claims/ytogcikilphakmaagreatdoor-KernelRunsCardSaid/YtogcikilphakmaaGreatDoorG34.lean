/-
  Merged texts of one proof: Tk5, Tk6.
-/
import Derived.Test.YtogcikilphakmaaGreatDoorG06
import Derived.Test.YtogcikilphakmaaGreatDoorG21
import Derived.Test.YtogcikilphakmaaGreatDoorG32

/-
  tasks.Table: times, steps, needs. Every task.
-/
namespace Go.Proofs.YtogcikilphakmaaGreatDoor
open Go.RowKit Spl

/-- A program's steps, or what is refused of its text. -/
def stepsOf (s : ByteArray) : List OpM × Int := if (parseM s).2.2 = 0 then stepsM (parseM s).1 else ([], (parseM s).2.2)
def needsM (units : List Int) : List NeedM → Option Int → Int
  | [], _ => 0
  | x :: l, pr => if x.res < 0 ∨ (units.length : Int) ≤ x.res ∨ x.units < 1 ∨ (units[x.res.toNat]?.getD 0) < x.units then 1
    else if (match pr with | some p => decide (x.res ≤ p) | none => false) = true then 21 else needsM units l (some x.res)
theorem needsM_cons {u : List Int} {x : NeedM} {l : List NeedM} {pr : Option Int} : needsM u (x :: l) pr = if x.res < 0 ∨ (u.length : Int) ≤ x.res ∨ x.units < 1 ∨ (u[x.res.toNat]?.getD 0) < x.units then 1
    else if (match pr with | some p => decide (x.res ≤ p) | none => false) = true then 21 else needsM u l (some x.res) := by cases pr <;> rfl
theorem mix_skip {P : Program} {ops : Array Oper} {Q : Exit → Act → World → Prop} {S : World → Prop} {T : Act → World → Prop} {k : Nat} {r : List (Nat × Bool)} {o : Oper} {a : Act} {w : World} (hi : ops[k]? = some o) (hw : Region.wanted o (yielded ops a.tmps) = false)
    (h : wpMix P ops Q S T r (a.put o.dst undef) w) : wpMix P ops Q S T ((k, true) :: r) a w := ⟨o, undef, hi, .inr ⟨hw, rfl⟩, h⟩
theorem needsM_nil {u : List Int} {pr : Option Int} : needsM u [] pr = 0 := by cases pr <;> rfl
section
variable {w0 w : World} {R : List Pr} {t : Nat} {m : TkM} {S : Hp}

set_option maxHeartbeats 400000 in
theorem tkTimes (H : Hd w0 R w) (nm lv fr nd cd : Value) (p f g : Int) :
    Calls Tryz.prog 80 #[taskV nm lv fr nd cd p f g] w fun e w' => e = .returned (.bool (timesOk p f g)) ∧ Hd w0 R w' := by
  have i0 : ∀ w, (Instr.index 199 (.agg #[.int .i64 p, .int .i64 f, .int .i64 g]) (.int .i64 0)).run Tryz.prog w = .ok (.int .i64 p) w := fun _ => by kernel_rfl
  have i1 : ∀ w, (Instr.index 199 (.agg #[.int .i64 p, .int .i64 f, .int .i64 g]) (.int .i64 1)).run Tryz.prog w = .ok (.int .i64 f) w := fun _ => by kernel_rfl
  have i2 : ∀ w, (Instr.index 199 (.agg #[.int .i64 p, .int .i64 f, .int .i64 g]) (.int .i64 2)).run Tryz.prog w = .ok (.int .i64 g) w := fun _ => by kernel_rfl
  unfold taskV
  go_enter Tryz.func80, Tryz.ntmps80
  go_wp2
  have HA := H.alloc (.cells #[nm, lv, fr, nd, cd, .int .i64 p, .int .i64 f, .int .i64 g] 33)
  go_loop [12] (fun i => ∃ k : Nat, i = .int .i64 k ∧ TimesTo p f g k) (fun i => 3 - (intOf i).toNat)
  case atStart => exact ⟨0, rfl, .inl rfl⟩
  case round =>
    obtain ⟨k, rfl, hk⟩ := hrel
    rcases hk with rfl | ⟨rfl, h1, h2⟩ | ⟨rfl, h1, h2, h3, h4⟩ | ⟨rfl, h1, h2, h3, h4, h5, h6⟩
    · go_wp2
      all_goals first
        | (go_round
           case rel => exact ⟨1, rfl, .inr (.inl ⟨rfl, by omega, by omega⟩)⟩
           case measure => simp [intOf])
        | (go_ret; exact ⟨by rw [times_no (by omega)]; rfl, HA.tail⟩)
    · go_wp2
      all_goals first
        | (go_round
           case rel => exact ⟨2, rfl, .inr (.inr (.inl ⟨rfl, h1, h2, by omega, by omega⟩))⟩
           case measure => simp [intOf])
        | (go_ret; exact ⟨by rw [times_no (by omega)]; rfl, HA.tail⟩)
    · go_wp2
      all_goals first
        | (go_round
           case rel => exact ⟨3, rfl, .inr (.inr (.inr ⟨rfl, h1, h2, h3, h4, by omega, by omega⟩))⟩
           case measure => simp [intOf])
        | (go_ret; exact ⟨by rw [times_no (by omega)]; rfl, HA.tail⟩)
    · have hV := times_last h1 h2 h3 h4 h5 h6
      by_cases e1 : p = 0
      · subst e1
        by_cases e3 : 0 < f
        · have hv : timesOk 0 f g = false := by rw [hV]; simp [e3]
          clear hV
          go_wp2
          go_ret
          exact ⟨by first | rfl | (rw [hv]; rfl), HA.tail⟩
        · have hv : timesOk 0 f g = true := by rw [hV]; simp [e3]
          clear hV
          go_wp2
          go_ret
          exact ⟨by first | rfl | (rw [hv]; rfl), HA.tail⟩
      · have e1' : (p == 0) = false := by simpa using e1
        have e2' : 0 < p := by omega
        by_cases e3 : g = 0
        · subst e3
          by_cases e4 : 0 < f
          · have hv : timesOk p f 0 = true := by rw [hV]; simp [e4, e2']
            clear hV
            go_wp2
            go_ret
            exact ⟨by first | rfl | (rw [hv]; rfl), HA.tail⟩
          · have hv : timesOk p f 0 = false := by rw [hV]; simp [e4, e2']
            clear hV
            go_wp2
            go_ret
            exact ⟨by first | rfl | (rw [hv]; rfl), HA.tail⟩
        · have e3' : (g == 0) = false := by simpa using e3
          have hv : timesOk p f g = false := by rw [hV]; simp [e1, e3]
          clear hV
          go_wp2
          go_ret
          exact ⟨by first | rfl | (rw [hv]; rfl), HA.tail⟩


set_option maxHeartbeats 1600000 in
theorem tkStepsOf [Lay w0 R] (H : Hd w0 R w) (s : ByteArray) : Calls Tryz.prog 49 #[.string s] w fun e w' => ∃ v, e = .returned (.tuple #[v, .int .i64 (stepsOf s).2]) ∧ Hd w0 (SlE 39 v (stepsOf s).1 :: R) w' := by
  have hp := cdParse H s
  by_cases hz : (parseM s).2.2 = 0
  · have e1 : stepsOf s = stepsM (parseM s).1 := by unfold stepsOf; rw [if_pos hz]
    rw [e1]
    rw [hz] at hp
    obtain ⟨P, hP⟩ : ∃ P, (parseM s).1 = P := ⟨_, rfl⟩
    rw [hP] at hp ⊢
    clear e1 hP hz
    go_enter Tryz.func49, Tryz.ntmps49
    go_wp2_with fail
    refine hp.mono ?_
    rintro e w1 ⟨v, rfl, H1⟩
    have hs := cdSteps H1 (Srd.slE H1)
    obtain ⟨a, c, rfl, -, -, -, -⟩ := H1.slc_form
    clear hp H
    go_wp2_with fail
    refine hs.mono ?_
    rintro e w2 ⟨v2, rfl, H2⟩
    go_wp2_with fail
    go_ret2
    exact ⟨_, rfl, H2.b2.tail⟩
  · have e1 : stepsOf s = ([], (parseM s).2.2) := by unfold stepsOf; rw [if_neg hz]
    rw [e1]
    obtain ⟨E, hE⟩ : ∃ E, (parseM s).2.2 = E := ⟨_, rfl⟩
    rw [hE] at hp hz ⊢
    clear e1 hE
    go_enter Tryz.func49, Tryz.ntmps49
    go_wp2_with fail
    refine hp.mono ?_
    rintro e w1 ⟨v, rfl, H1⟩
    go_wp2_with fail
    go_ret2
    exact ⟨_, rfl, H1.tail.slc_nil _ _⟩

set_option maxRecDepth 20000 in
set_option maxHeartbeats 4000000 in
theorem tkNeeds (H : Hd w0 (TkP t m S :: R) w) (hm : m.Ok) {v : Value} {L : List NeedM} (hs : Srg w0 R v L) (hL : L.length ≤ 1000000) :
    Calls Tryz.prog 81 #[.pointer (some ⟨t, 0, none⟩), v] w fun e w' => e = .returned (.int .i64 (needsM m.units L none)) ∧ Hd w0 (TkP t m S :: R) w' := by
  obtain ⟨⟨vu, vr, vn, rows⟩, hx, H1⟩ := TkP.opened H
  dsimp only at hx H1
  obtain ⟨au, cu, hvu, -, -, -, -⟩ := (H1.v vu).slc_form
  subst hvu
  have hu16 := hm.u
  obtain ⟨a, c, hv⟩ := hs.form
  subst hv
  replace hx := Lib.hid hx
  replace hs := Lib.hid hs
  clear H hm
  go_enter Tryz.func81, Tryz.ntmps81
  go_wp2_with fail
  go_loopw [9] (fun x wr => ∃ (k : Nat) (pr : Option Int), k ≤ L.length ∧ x = .int .i64 k ∧ pr = (if k = 0 then none else (L[k - 1]?).map NeedM.res) ∧ needsM m.units L none = needsM m.units (L.drop k) pr ∧ Hd w0 (cel t 104 #[.int .i64 m.words, .slice au m.units.length cu, vr, vn] :: SlE 3 (.slice au m.units.length cu) m.units :: SlE 127 vr rows :: SlE 196 vn m.names :: R) wr) (fun x _ => L.length - (intOf x).toNat)
  case atStart => exact ⟨0, none, Nat.zero_le _, rfl, rfl, rfl, H1⟩
  case round =>
    clear H1
    obtain ⟨k, pr, hk, rfl, hpr, hN, H1⟩ := hrel
    by_cases hlt : k < L.length
    · obtain ⟨x, hxk⟩ : ∃ x, L[k]? = some x := ⟨L[k], List.getElem?_eq_getElem hlt⟩
      rw [drop_at hxk, needsM_cons] at hN
      obtain ⟨g2, go2, c2, hv2, -, hcell⟩ := hs.out.at hxk
      injection hv2 with q1 q2 q3
      subst q1; subst q3
      have f0 := hcell H1.re 0 _ rfl
      have f1 := hcell H1.re 1 _ rfl
      simp only [Enc.size, Nat.add_zero] at f0 f1
      have n1 : ¬ (k : Int) < 0 := by omega
      have n2 : (k : Int) < L.length := by omega
      have n3 : ¬ L.length ≤ k := by omega
      have g5 : IntKind.i64.wrap ((k : Int) + 1) = (k : Int) + 1 := IntWalk.i64_in _ (by omega)
      obtain ⟨xr, xu⟩ := x
      dsimp only at hN f0 f1
      have HA : Hd w0 _ (wr.alloc (.cells #[.int .i64 xr, .int .i64 xu] 58)) := H1.fol
      have d1 := (show _ = some (.slice au m.units.length cu) from (HA.k t).ce 1 rfl)
      have e0 := (show _ = some (.int .i64 xr) from (HA.k wr.heap.size).ce 0 rfl)
      have e1 := (show _ = some (.int .i64 xu) from (HA.k wr.heap.size).ce 1 rfl)
      by_cases b1 : xr < 0
      · have p1 : decide (xr < 0) = true := by simpa using b1
        rw [if_pos (.inl b1)] at hN
        replace hN := Lib.hid hN
        clear hcell q2 H1 hxk
        go_wp2_with fail
        refine wp_region_mix0 [(0, true), (1, true), (2, true), (3, true), (4, true), (5, true), (6, true), (7, true), (8, true), (9, true), (10, true), (11, true), (12, true), (13, true), (14, true), (15, true), (16, true), (17, true), (18, true), (19, true), (20, true), (21, true), (22, true), (23, true), (24, true), (25, true), (26, true), (27, true), (28, true), (29, true), (30, true), (31, true)] (fun w' => w'.cell? ⟨wr.heap.size, 0, none⟩ = some (.int .i64 xr) ∧ w'.cell? ⟨wr.heap.size, 1, none⟩ = some (.int .i64 xu) ∧ w'.cell? ⟨t, 1, none⟩ = some (.slice au m.units.length cu)) (by kernel_rfl) (by kernel_rfl) (⟨e0, e1, d1⟩) (fun _ _ d _ _ h => by cases d <;> exact h) ?_
        iterate 4 (refine mix_head (o := _) (v := ?_) (by (simp only [List.getElem?_toArray, List.getElem?_cons_succ, List.getElem?_cons_zero]); rfl) (by rfl) (fun w' hS => ?_) ?_; rotate_left 1; (focus ((try dsimp only at hS); (try go_split_ands); go_simp; (try with_reducible rfl))); (try simp only [Act.put, List.setIfInBounds_toArray, List.set_cons_zero, List.set_cons_succ]))
        iterate 8 (refine mix_skip (o := _) (by (simp only [List.getElem?_toArray, List.getElem?_cons_succ, List.getElem?_cons_zero]); rfl) (by rfl) ?_; (try simp only [Act.put, List.setIfInBounds_toArray, List.set_cons_zero, List.set_cons_succ]))
        iterate 2 (refine mix_head (o := _) (v := ?_) (by (simp only [List.getElem?_toArray, List.getElem?_cons_succ, List.getElem?_cons_zero]); rfl) (by rfl) (fun w' hS => ?_) ?_; rotate_left 1; (focus ((try dsimp only at hS); (try go_split_ands); go_simp; (try with_reducible rfl))); (try simp only [Act.put, List.setIfInBounds_toArray, List.set_cons_zero, List.set_cons_succ]))
        iterate 3 (refine mix_skip (o := _) (by (simp only [List.getElem?_toArray, List.getElem?_cons_succ, List.getElem?_cons_zero]); rfl) (by rfl) ?_; (try simp only [Act.put, List.setIfInBounds_toArray, List.set_cons_zero, List.set_cons_succ]))
        iterate 2 (refine mix_head (o := _) (v := ?_) (by (simp only [List.getElem?_toArray, List.getElem?_cons_succ, List.getElem?_cons_zero]); rfl) (by rfl) (fun w' hS => ?_) ?_; rotate_left 1; (focus ((try dsimp only at hS); (try go_split_ands); go_simp; (try with_reducible rfl))); (try simp only [Act.put, List.setIfInBounds_toArray, List.set_cons_zero, List.set_cons_succ]))
        iterate 11 (refine mix_skip (o := _) (by (simp only [List.getElem?_toArray, List.getElem?_cons_succ, List.getElem?_cons_zero]); rfl) (by rfl) ?_; (try simp only [Act.put, List.setIfInBounds_toArray, List.set_cons_zero, List.set_cons_succ]))
        iterate 2 (refine mix_head (o := _) (v := ?_) (by (simp only [List.getElem?_toArray, List.getElem?_cons_succ, List.getElem?_cons_zero]); rfl) (by rfl) (fun w' hS => ?_) ?_; rotate_left 1; (focus ((try dsimp only at hS); (try go_split_ands); go_simp; (try with_reducible rfl))); (try simp only [Act.put, List.setIfInBounds_toArray, List.set_cons_zero, List.set_cons_succ]))
        refine mix_end ?_
        (try dsimp only)
        go_wp2_with fail
        go_ret
        exact ⟨ret_int hN.out, TkP.shut (x := ⟨.slice au m.units.length cu, vr, vn, rows⟩) (by exact Hd.fin HA) hx.out⟩
      have p1 : decide (xr < 0) = false := by simpa using b1
      by_cases b2 : (m.units.length : Int) ≤ xr
      · have p2 : decide ((m.units.length : Int) ≤ xr) = true := by simpa using b2
        rw [if_pos (.inr (.inl b2))] at hN
        replace hN := Lib.hid hN
        clear hcell q2 H1 hxk
        go_wp2_with fail
        refine wp_region_mix0 [(0, true), (1, true), (2, true), (3, true), (4, true), (5, true), (6, true), (7, true), (8, true), (9, true), (10, true), (11, true), (12, true), (13, true), (14, true), (15, true), (16, true), (17, true), (18, true), (19, true), (20, true), (21, true), (22, true), (23, true), (24, true), (25, true), (26, true), (27, true), (28, true), (29, true), (30, true), (31, true)] (fun w' => w'.cell? ⟨wr.heap.size, 0, none⟩ = some (.int .i64 xr) ∧ w'.cell? ⟨wr.heap.size, 1, none⟩ = some (.int .i64 xu) ∧ w'.cell? ⟨t, 1, none⟩ = some (.slice au m.units.length cu)) (by kernel_rfl) (by kernel_rfl) (⟨e0, e1, d1⟩) (fun _ _ d _ _ h => by cases d <;> exact h) ?_
        iterate 4 (refine mix_head (o := _) (v := ?_) (by (simp only [List.getElem?_toArray, List.getElem?_cons_succ, List.getElem?_cons_zero]); rfl) (by rfl) (fun w' hS => ?_) ?_; rotate_left 1; (focus ((try dsimp only at hS); (try go_split_ands); go_simp; (try with_reducible rfl))); (try simp only [Act.put, List.setIfInBounds_toArray, List.set_cons_zero, List.set_cons_succ]))
        iterate 8 (refine mix_head (o := _) (v := ?_) (by (simp only [List.getElem?_toArray, List.getElem?_cons_succ, List.getElem?_cons_zero]); rfl) (by rfl) (fun w' hS => ?_) ?_; rotate_left 1; (focus ((try dsimp only at hS); (try go_split_ands); go_simp; (try with_reducible rfl))); (try simp only [Act.put, List.setIfInBounds_toArray, List.set_cons_zero, List.set_cons_succ]))
        iterate 2 (refine mix_head (o := _) (v := ?_) (by (simp only [List.getElem?_toArray, List.getElem?_cons_succ, List.getElem?_cons_zero]); rfl) (by rfl) (fun w' hS => ?_) ?_; rotate_left 1; (focus ((try dsimp only at hS); (try go_split_ands); go_simp; (try with_reducible rfl))); (try simp only [Act.put, List.setIfInBounds_toArray, List.set_cons_zero, List.set_cons_succ]))
        iterate 3 (refine mix_skip (o := _) (by (simp only [List.getElem?_toArray, List.getElem?_cons_succ, List.getElem?_cons_zero]); rfl) (by rfl) ?_; (try simp only [Act.put, List.setIfInBounds_toArray, List.set_cons_zero, List.set_cons_succ]))
        iterate 2 (refine mix_head (o := _) (v := ?_) (by (simp only [List.getElem?_toArray, List.getElem?_cons_succ, List.getElem?_cons_zero]); rfl) (by rfl) (fun w' hS => ?_) ?_; rotate_left 1; (focus ((try dsimp only at hS); (try go_split_ands); go_simp; (try with_reducible rfl))); (try simp only [Act.put, List.setIfInBounds_toArray, List.set_cons_zero, List.set_cons_succ]))
        iterate 11 (refine mix_skip (o := _) (by (simp only [List.getElem?_toArray, List.getElem?_cons_succ, List.getElem?_cons_zero]); rfl) (by rfl) ?_; (try simp only [Act.put, List.setIfInBounds_toArray, List.set_cons_zero, List.set_cons_succ]))
        iterate 2 (refine mix_head (o := _) (v := ?_) (by (simp only [List.getElem?_toArray, List.getElem?_cons_succ, List.getElem?_cons_zero]); rfl) (by rfl) (fun w' hS => ?_) ?_; rotate_left 1; (focus ((try dsimp only at hS); (try go_split_ands); go_simp; (try with_reducible rfl))); (try simp only [Act.put, List.setIfInBounds_toArray, List.set_cons_zero, List.set_cons_succ]))
        refine mix_end ?_
        (try dsimp only)
        go_wp2_with fail
        go_ret
        exact ⟨ret_int hN.out, TkP.shut (x := ⟨.slice au m.units.length cu, vr, vn, rows⟩) (by exact Hd.fin HA) hx.out⟩
      have p2 : decide ((m.units.length : Int) ≤ xr) = false := by simpa using b2
      by_cases b3 : xu < 1
      · have p3 : decide (xu < 1) = true := by simpa using b3
        rw [if_pos (.inr (.inr (.inl b3)))] at hN
        replace hN := Lib.hid hN
        clear hcell q2 H1 hxk
        go_wp2_with fail
        refine wp_region_mix0 [(0, true), (1, true), (2, true), (3, true), (4, true), (5, true), (6, true), (7, true), (8, true), (9, true), (10, true), (11, true), (12, true), (13, true), (14, true), (15, true), (16, true), (17, true), (18, true), (19, true), (20, true), (21, true), (22, true), (23, true), (24, true), (25, true), (26, true), (27, true), (28, true), (29, true), (30, true), (31, true)] (fun w' => w'.cell? ⟨wr.heap.size, 0, none⟩ = some (.int .i64 xr) ∧ w'.cell? ⟨wr.heap.size, 1, none⟩ = some (.int .i64 xu) ∧ w'.cell? ⟨t, 1, none⟩ = some (.slice au m.units.length cu)) (by kernel_rfl) (by kernel_rfl) (⟨e0, e1, d1⟩) (fun _ _ d _ _ h => by cases d <;> exact h) ?_
        iterate 4 (refine mix_head (o := _) (v := ?_) (by (simp only [List.getElem?_toArray, List.getElem?_cons_succ, List.getElem?_cons_zero]); rfl) (by rfl) (fun w' hS => ?_) ?_; rotate_left 1; (focus ((try dsimp only at hS); (try go_split_ands); go_simp; (try with_reducible rfl))); (try simp only [Act.put, List.setIfInBounds_toArray, List.set_cons_zero, List.set_cons_succ]))
        iterate 8 (refine mix_head (o := _) (v := ?_) (by (simp only [List.getElem?_toArray, List.getElem?_cons_succ, List.getElem?_cons_zero]); rfl) (by rfl) (fun w' hS => ?_) ?_; rotate_left 1; (focus ((try dsimp only at hS); (try go_split_ands); go_simp; (try with_reducible rfl))); (try simp only [Act.put, List.setIfInBounds_toArray, List.set_cons_zero, List.set_cons_succ]))
        iterate 2 (refine mix_head (o := _) (v := ?_) (by (simp only [List.getElem?_toArray, List.getElem?_cons_succ, List.getElem?_cons_zero]); rfl) (by rfl) (fun w' hS => ?_) ?_; rotate_left 1; (focus ((try dsimp only at hS); (try go_split_ands); go_simp; (try with_reducible rfl))); (try simp only [Act.put, List.setIfInBounds_toArray, List.set_cons_zero, List.set_cons_succ]))
        iterate 3 (refine mix_head (o := _) (v := ?_) (by (simp only [List.getElem?_toArray, List.getElem?_cons_succ, List.getElem?_cons_zero]); rfl) (by rfl) (fun w' hS => ?_) ?_; rotate_left 1; (focus ((try dsimp only at hS); (try go_split_ands); go_simp; (try with_reducible rfl))); (try simp only [Act.put, List.setIfInBounds_toArray, List.set_cons_zero, List.set_cons_succ]))
        iterate 2 (refine mix_head (o := _) (v := ?_) (by (simp only [List.getElem?_toArray, List.getElem?_cons_succ, List.getElem?_cons_zero]); rfl) (by rfl) (fun w' hS => ?_) ?_; rotate_left 1; (focus ((try dsimp only at hS); (try go_split_ands); go_simp; (try with_reducible rfl))); (try simp only [Act.put, List.setIfInBounds_toArray, List.set_cons_zero, List.set_cons_succ]))
        iterate 11 (refine mix_skip (o := _) (by (simp only [List.getElem?_toArray, List.getElem?_cons_succ, List.getElem?_cons_zero]); rfl) (by rfl) ?_; (try simp only [Act.put, List.setIfInBounds_toArray, List.set_cons_zero, List.set_cons_succ]))
        iterate 2 (refine mix_head (o := _) (v := ?_) (by (simp only [List.getElem?_toArray, List.getElem?_cons_succ, List.getElem?_cons_zero]); rfl) (by rfl) (fun w' hS => ?_) ?_; rotate_left 1; (focus ((try dsimp only at hS); (try go_split_ands); go_simp; (try with_reducible rfl))); (try simp only [Act.put, List.setIfInBounds_toArray, List.set_cons_zero, List.set_cons_succ]))
        refine mix_end ?_
        (try dsimp only)
        go_wp2_with fail
        go_ret
        exact ⟨ret_int hN.out, TkP.shut (x := ⟨.slice au m.units.length cu, vr, vn, rows⟩) (by exact Hd.fin HA) hx.out⟩
      have p3 : decide (xu < 1) = false := by simpa using b3
      obtain ⟨r, rfl⟩ : ∃ r : Nat, xr = r := ⟨xr.toNat, by omega⟩
      have hrl : r < m.units.length := by omega
      obtain ⟨U, hU⟩ : ∃ U, m.units[r]? = some U := ⟨m.units[r], List.getElem?_eq_getElem hrl⟩
      rw [Int.toNat_natCast, hU, Option.getD_some] at hN
      obtain ⟨gu, cu2, hvu, -, -, -, hcu⟩ := (HA.v (.slice au m.units.length cu)).slE_at hU
      injection hvu with r1 r2 r3
      subst r1; subst r3
      have u0 := hcu 0 _ rfl
      simp only [Enc.size, Nat.add_zero, Nat.mul_one] at u0
      have m1 : ¬ m.units.length ≤ r := by omega
      have m2 : (r : Int) < m.units.length := by omega
      have m3 : (0 : Int) ≤ r := by omega
      have m4 : (r : Int) ≤ m.units.length := by omega
      clear hcell hcu q2 r2 H1 hU
      by_cases b4 : U < xu
      · have p4 : decide (U < xu) = true := by simpa using b4
        rw [if_pos (.inr (.inr (.inr b4)))] at hN
        replace hN := Lib.hid hN
        go_wp2_with fail
        refine wp_region_mix0 [(0, true), (1, true), (2, true), (3, true), (4, true), (5, true), (6, true), (7, true), (8, true), (9, true), (10, true), (11, true), (12, true), (13, true), (14, true), (15, true), (16, true), (17, true), (18, true), (19, true), (20, true), (21, true), (22, true), (23, true), (24, true), (25, true), (26, true), (27, true), (28, true), (29, true), (30, true), (31, true)] (fun w' => w'.cell? ⟨wr.heap.size, 0, none⟩ = some (.int .i64 r) ∧ w'.cell? ⟨wr.heap.size, 1, none⟩ = some (.int .i64 xu) ∧ w'.cell? ⟨t, 1, none⟩ = some (.slice (some ⟨gu, 0, none⟩) m.units.length cu) ∧ w'.cell? ⟨gu, r, none⟩ = some (.int .i64 U)) (by kernel_rfl) (by kernel_rfl) (⟨e0, e1, d1, u0⟩) (fun _ _ d _ _ h => by cases d <;> exact h) ?_
        iterate 32 (refine mix_head (o := _) (v := ?_) (by (simp only [List.getElem?_toArray, List.getElem?_cons_succ, List.getElem?_cons_zero]); rfl) (by rfl) (fun w' hS => ?_) ?_; rotate_left 1; (focus ((try dsimp only at hS); (try go_split_ands); go_simp; (try with_reducible rfl))); (try simp only [Act.put, List.setIfInBounds_toArray, List.set_cons_zero, List.set_cons_succ]))
        refine mix_end ?_
        (try dsimp only)
        go_wp2_with fail
        go_ret
        exact ⟨ret_int hN.out, TkP.shut (x := ⟨.slice (some ⟨gu, 0, none⟩) m.units.length cu, vr, vn, rows⟩) (by exact Hd.fin HA) hx.out⟩
      have p4 : decide (U < xu) = false := by simpa using b4
      rw [if_neg (by omega)] at hN
      rcases Nat.eq_zero_or_pos k with rfl | hk0
      · rw [if_pos rfl] at hpr
        subst hpr
        simp only [Nat.zero_mul, Nat.add_zero] at f0 f1
        rw [if_neg (by simp)] at hN
        replace hN := Lib.hid hN
        have hp2 := Lib.hid (show some (r : Int) = (if 0 + 1 = 0 then none else (L[0 + 1 - 1]?).map NeedM.res) by rw [if_neg (by decide), Nat.add_sub_cancel, hxk]; rfl)
        clear hxk
        go_wp2_with fail
        refine wp_region_mix0 [(0, true), (1, true), (2, true), (3, true), (4, true), (5, true), (6, true), (7, true), (8, true), (9, true), (10, true), (11, true), (12, true), (13, true), (14, true), (15, true), (16, true), (17, true), (18, true), (19, true), (20, true), (21, true), (22, true), (23, true), (24, true), (25, true), (26, true), (27, true), (28, true), (29, true), (30, true), (31, true)] (fun w' => w'.cell? ⟨wr.heap.size, 0, none⟩ = some (.int .i64 r) ∧ w'.cell? ⟨wr.heap.size, 1, none⟩ = some (.int .i64 xu) ∧ w'.cell? ⟨t, 1, none⟩ = some (.slice (some ⟨gu, 0, none⟩) m.units.length cu) ∧ w'.cell? ⟨gu, r, none⟩ = some (.int .i64 U)) (by kernel_rfl) (by kernel_rfl) (⟨e0, e1, d1, u0⟩) (fun _ _ d _ _ h => by cases d <;> exact h) ?_
        iterate 32 (refine mix_head (o := _) (v := ?_) (by (simp only [List.getElem?_toArray, List.getElem?_cons_succ, List.getElem?_cons_zero]); rfl) (by rfl) (fun w' hS => ?_) ?_; rotate_left 1; (focus ((try dsimp only at hS); (try go_split_ands); go_simp; (try with_reducible rfl))); (try simp only [Act.put, List.setIfInBounds_toArray, List.set_cons_zero, List.set_cons_succ]))
        refine mix_end ?_
        (try dsimp only)
        go_wp2_with fail
        go_quiet (fail)
        go_wp2_with fail
        go_roundw
        case rel => exact ⟨1, some (r : Int), by omega, by simp, hp2.out, hN.out, by exact Hd.fin HA⟩
        case measure => simp [intOf]; omega
      · rw [if_neg (by omega)] at hpr
        obtain ⟨y, hy⟩ : ∃ y, L[k - 1]? = some y := ⟨L[k - 1]'(by omega), List.getElem?_eq_getElem _⟩
        rw [hy] at hpr
        obtain ⟨yr, yu⟩ := y
        have hpr2 : pr = some yr := hpr
        subst hpr2
        clear hpr
        obtain ⟨g3, go3, c3, hv3, -, hcell3⟩ := hs.out.at hy
        injection hv3 with q1 q2 q3
        injection q1 with q1
        injection q1 with q1 q1o
        subst q1; subst q1o; subst q3
        have HR : Hd w0 R (wr.alloc (.cells #[.int .i64 (r : Int), .int .i64 xu] 58)) := HA.re
        have y0 := hcell3 HR 0 _ rfl
        simp only [Enc.size, Nat.add_zero] at y0
        obtain ⟨k', rfl⟩ : ∃ k', k = k' + 1 := ⟨k - 1, by omega⟩
        rw [Nat.add_sub_cancel] at y0 hy
        have g7 : IntKind.i64.wrap (((k' + 1 : Nat) : Int) - 1) = (k' : Int) := by rw [IntWalk.i64_in _ (by omega)]; omega
        have g8 : IntKind.i64.wrap ((k' : Int) + 1 - 1) = (k' : Int) := by rw [IntWalk.i64_in _ (by omega)]; omega
        have g9 : IntKind.i64.wrap (k' : Int) = (k' : Int) := IntWalk.i64_in _ (by omega)
        have g10 : IntKind.i64.wrap ((k' : Int) + 1 + 1) = (k' : Int) + 1 + 1 := IntWalk.i64_in _ (by omega)
        have m5 : (k' : Int) < L.length := by omega
        have m6 : ¬ (k' : Int) < 0 := by omega
        have m7 : ¬ L.length ≤ k' := by omega
        have m8 : (0 : Int) < (k' : Int) + 1 := by omega
        have m9 : (0 : Int) ≤ k' := by omega
        have hp2 := Lib.hid (show some (r : Int) = (if k' + 1 + 1 = 0 then none else (L[k' + 1 + 1 - 1]?).map NeedM.res) by rw [if_neg (by omega), Nat.add_sub_cancel, hxk]; rfl)
        clear hxk hcell3 hy q2
        by_cases b5 : (r : Int) ≤ yr
        · rw [if_pos (by simpa using b5)] at hN
          replace hN := Lib.hid hN
          go_wp2_with fail
          refine wp_region_mix0 [(0, true), (1, true), (2, true), (3, true), (4, true), (5, true), (6, true), (7, true), (8, true), (9, true), (10, true), (11, true), (12, true), (13, true), (14, true), (15, true), (16, true), (17, true), (18, true), (19, true), (20, true), (21, true), (22, true), (23, true), (24, true), (25, true), (26, true), (27, true), (28, true), (29, true), (30, true), (31, true)] (fun w' => w'.cell? ⟨wr.heap.size, 0, none⟩ = some (.int .i64 r) ∧ w'.cell? ⟨wr.heap.size, 1, none⟩ = some (.int .i64 xu) ∧ w'.cell? ⟨t, 1, none⟩ = some (.slice (some ⟨gu, 0, none⟩) m.units.length cu) ∧ w'.cell? ⟨gu, r, none⟩ = some (.int .i64 U)) (by kernel_rfl) (by kernel_rfl) (⟨e0, e1, d1, u0⟩) (fun _ _ d _ _ h => by cases d <;> exact h) ?_
          iterate 32 (refine mix_head (o := _) (v := ?_) (by (simp only [List.getElem?_toArray, List.getElem?_cons_succ, List.getElem?_cons_zero]); rfl) (by rfl) (fun w' hS => ?_) ?_; rotate_left 1; (focus ((try dsimp only at hS); (try go_split_ands); go_simp; (try with_reducible rfl))); (try simp only [Act.put, List.setIfInBounds_toArray, List.set_cons_zero, List.set_cons_succ]))
          refine mix_end ?_
          (try dsimp only)
          go_wp2_with fail
          go_quiet (fail)
          go_wp2_with fail
          go_ret
          exact ⟨ret_int hN.out, TkP.shut (x := ⟨.slice (some ⟨gu, 0, none⟩) m.units.length cu, vr, vn, rows⟩) (by exact Hd.fin HA) hx.out⟩
        · rw [if_neg (by simpa using b5)] at hN
          replace hN := Lib.hid hN
          go_wp2_with fail
          refine wp_region_mix0 [(0, true), (1, true), (2, true), (3, true), (4, true), (5, true), (6, true), (7, true), (8, true), (9, true), (10, true), (11, true), (12, true), (13, true), (14, true), (15, true), (16, true), (17, true), (18, true), (19, true), (20, true), (21, true), (22, true), (23, true), (24, true), (25, true), (26, true), (27, true), (28, true), (29, true), (30, true), (31, true)] (fun w' => w'.cell? ⟨wr.heap.size, 0, none⟩ = some (.int .i64 r) ∧ w'.cell? ⟨wr.heap.size, 1, none⟩ = some (.int .i64 xu) ∧ w'.cell? ⟨t, 1, none⟩ = some (.slice (some ⟨gu, 0, none⟩) m.units.length cu) ∧ w'.cell? ⟨gu, r, none⟩ = some (.int .i64 U)) (by kernel_rfl) (by kernel_rfl) (⟨e0, e1, d1, u0⟩) (fun _ _ d _ _ h => by cases d <;> exact h) ?_
          iterate 32 (refine mix_head (o := _) (v := ?_) (by (simp only [List.getElem?_toArray, List.getElem?_cons_succ, List.getElem?_cons_zero]); rfl) (by rfl) (fun w' hS => ?_) ?_; rotate_left 1; (focus ((try dsimp only at hS); (try go_split_ands); go_simp; (try with_reducible rfl))); (try simp only [Act.put, List.setIfInBounds_toArray, List.set_cons_zero, List.set_cons_succ]))
          refine mix_end ?_
          (try dsimp only)
          go_wp2_with fail
          go_quiet (fail)
          go_wp2_with fail
          go_roundw
          case rel => exact ⟨k' + 1 + 1, some (r : Int), by omega, by simp, hp2.out, hN.out, by exact Hd.fin HA⟩
          case measure => simp [intOf]; omega
    · obtain rfl : k = L.length := by omega
      rw [List.drop_length, needsM_nil] at hN
      replace hN := Lib.hid hN
      go_wp2_with fail
      go_ret
      exact ⟨ret_int hN.out, TkP.shut (x := ⟨_, vr, vn, rows⟩) H1 hx.out⟩
end
end Go.Proofs.YtogcikilphakmaaGreatDoor

/-
  tasks.Table: Check. Every task.
-/
namespace Go.Proofs.YtogcikilphakmaaGreatDoor
open Go.RowKit Spl

/-- Why a task would not be added. -/
def checkTk (m : TkM) (x : TaskM) : Int :=
  if (stepsOf x.cd).2 = 0 then
    if legalM x.nm = true then
      if (rowAt m.names x.nm).isSome = true then 3
      else if x.lv < 1 ∨ 32 < x.lv ∨ x.fr < 0 ∨ 4096 < x.fr ∨ timesOk x.p x.f x.g = false then 1
      else if needsM m.units x.needs none = 0 then (if (64 : Int) ≤ m.rows.length then 4 else if m.words < withM m.rows x.lv x.fr then 25 else 0)
      else needsM m.units x.needs none
    else 2
  else (stepsOf x.cd).2
section
variable {w0 w : World} {R : List Pr} {t : Nat} {m : TkM} {S : Hp}

set_option maxRecDepth 20000 in
set_option maxHeartbeats 4000000 in
theorem tkCheck [Lay w0 R] (H : Hd w0 (TkP t m S :: R) w) (hm : m.Ok) (x : TaskM) {nv : Value} (hs : Srg w0 R nv x.needs) (hL : x.needs.length ≤ 1000000) :
    Calls Tryz.prog 46 #[.pointer (some ⟨t, 0, none⟩), .agg #[.string x.nm, .int .i64 x.lv, .int .i64 x.fr, nv, .string x.cd, .int .i64 x.p, .int .i64 x.f, .int .i64 x.g]] w fun e w' => e = .returned (.int .i64 (checkTk m x)) ∧ Hd w0 (TkP t m S :: R) w' := by
  obtain ⟨E, hE⟩ : ∃ E, checkTk m x = E := ⟨_, rfl⟩
  rw [hE]
  unfold checkTk at hE
  obtain ⟨a, c, hv⟩ := hs.form
  subst hv
  obtain ⟨nm, lv, fr, needs, cd, p, f, g⟩ := x
  dsimp only at hE hs hL
  obtain ⟨C, hC⟩ : ∃ C : Array Value, C = #[.string nm, .int .i64 lv, .int .i64 fr, .slice a needs.length c, .string cd, .int .i64 p, .int .i64 f, .int .i64 g] := ⟨_, rfl⟩
  have H1 : Hd w0 _ (w.alloc (.cells #[.string nm, .int .i64 lv, .int .i64 fr, .slice a needs.length c, .string cd, .int .i64 p, .int .i64 f, .int .i64 g] 33)) := H.fol
  have h1 := tkStepsOf H1 cd
  replace hs := Lib.hid hs
  replace hm := Lib.hid hm
  clear H H1 hC
  go_enter Tryz.func46, Tryz.ntmps46
  go_wp2_with fail
  refine h1.mono ?_
  rintro e w1 ⟨sv, rfl, H2⟩
  clear h1
  replace H2 := H2.tail
  obtain ⟨E1, hE1⟩ : ∃ E1, (stepsOf cd).2 = E1 := ⟨_, rfl⟩
  rw [hE1] at hE ⊢
  clear hE1
  by_cases z1 : ¬ E1 = 0
  · rw [if_neg z1] at hE
    go_wp2_with fail
    go_ret
    exact ⟨ret_int (by first | exact hE.symm | rfl), H2.tail⟩
  replace z1 : E1 = 0 := by omega
  subst z1
  rw [if_pos rfl] at hE
  have c0 := (show _ = some (.string nm) from (H2.k w.heap.size).ce 0 rfl)
  have h2 := cdLegal (w := w1) nm
  go_wp2_with fail
  refine h2.mono ?_
  rintro e w2 ⟨rfl, rfl⟩
  clear h2
  cases hlg : legalM nm with
  | false =>
    rw [hlg, if_neg (by decide)] at hE
    go_wp2_with fail
    go_ret
    exact ⟨ret_int (by first | exact hE.symm | rfl), H2.tail⟩
  | true =>
  rw [hlg, if_pos rfl] at hE
  obtain ⟨⟨vu, vr, vn, rows⟩, hx, H3⟩ := TkP.opened (H2.k t)
  dsimp only at hx H3
  have hg : ∀ w3, Hd w0 (cel t 104 #[.int .i64 m.words, vu, vr, vn] :: SlE 3 vu m.units :: SlE 127 vr rows :: SlE 196 vn m.names :: cel w.heap.size 33 #[.string nm, .int .i64 lv, .int .i64 fr, .slice a needs.length c, .string cd, .int .i64 p, .int .i64 f, .int .i64 g] :: R) w3 →
      Calls Tryz.prog 79 #[.pointer (some ⟨t, 3, none⟩), .string nm] w3 fun e w' => (∃ i, e = .returned (.tuple #[.int .i64 i, .bool (rowAt m.names nm).isSome])) ∧ Hd w0 (TkP t m S :: cel w.heap.size 33 #[.string nm, .int .i64 lv, .int .i64 fr, .slice a needs.length c, .string cd, .int .i64 p, .int .i64 f, .int .i64 g] :: R) w' := fun w3 h3 => by
    cases hr : rowAt m.names nm with
    | none =>
      refine (getNo_name (o := 3) ((h3.v vn).k t) rfl hm.out.nm (by have := hm.out.nn; have := hm.out.n; omega) nm hr).mono ?_
      rintro e w' ⟨rfl, h4⟩
      exact ⟨⟨_, rfl⟩, TkP.shut (x := ⟨vu, vr, vn, rows⟩) h4.re hx⟩
    | some y =>
      refine (get_name (o := 3) ((h3.v vn).k t) rfl hm.out.nm (by have := hm.out.nn; have := hm.out.n; omega) nm hr).mono ?_
      rintro e w' ⟨rfl, h4⟩
      exact ⟨⟨_, rfl⟩, TkP.shut (x := ⟨vu, vr, vn, rows⟩) h4.re hx⟩
  have h3 := hg _ H3.re.drew
  clear hg hx c0
  have c0 := (show _ = some (.string nm) from (H3.k w.heap.size).ce 0 rfl)
  go_wp2_with fail
  refine wp_region_mix0 [(0, true), (1, true), (2, true), (3, true), (4, true), (5, false), (6, true), (7, true), (8, true), (9, true), (10, true)] (fun w' => w'.cell? ⟨w.heap.size, 0, none⟩ = some (.string nm)) (by kernel_rfl) (by kernel_rfl) (c0) (fun _ _ d _ _ h => by cases d <;> exact h) ?_
  iterate 5 (refine mix_head (o := _) (v := ?_) (by (simp only [List.getElem?_toArray, List.getElem?_cons_succ, List.getElem?_cons_zero]); rfl) (by rfl) (fun w' hS => ?_) ?_; rotate_left 1; (focus ((try dsimp only at hS); (try go_split_ands); go_simp; (try with_reducible rfl))); (try simp only [Act.put, List.setIfInBounds_toArray, List.set_cons_zero, List.set_cons_succ]))
  refine mix_mid (o := _) (by (simp only [List.getElem?_toArray, List.getElem?_cons_succ, List.getElem?_cons_zero]); rfl) ?_
  go_wp2_with fail
  refine h3.mono ?_
  rintro e w3 ⟨⟨i, rfl⟩, H4⟩
  clear h3 H3 H2
  have c1 := (show _ = some (.string nm) from (H4.k w.heap.size).ce 0 rfl)
  go_wp2_with fail
  refine mixQ_in c1 ?_
  iterate 5 (refine mix_head (o := _) (v := ?_) (by (simp only [List.getElem?_toArray, List.getElem?_cons_succ, List.getElem?_cons_zero]); rfl) (by rfl) (fun w' hS => ?_) ?_; rotate_left 1; (focus ((try dsimp only at hS); (try go_split_ands); go_simp; (try with_reducible rfl))); (try simp only [Act.put, List.setIfInBounds_toArray, List.set_cons_zero, List.set_cons_succ]))
  refine mix_end ?_
  (try dsimp only)
  cases hr : (rowAt m.names nm).isSome with
  | true =>
    rw [hr, if_pos rfl] at hE
    go_wp2_with fail
    go_ret
    exact ⟨ret_int (by first | exact hE.symm | rfl), by exact Hd.fin H4⟩
  | false =>
  rw [hr, if_neg (by decide)] at hE
  have hf := H4.facts
  simp only [Nat.reduceAdd] at hf
  go_split_ands
  by_cases z2 : lv < 1
  · rw [if_pos (.inl z2)] at hE
    go_wp2_with fail
    go_ret
    exact ⟨ret_int (by first | exact hE.symm | rfl), by exact Hd.fin H4⟩
  by_cases z3 : 32 < lv
  · rw [if_pos (.inr (.inl z3))] at hE
    go_wp2_with fail
    go_ret
    exact ⟨ret_int (by first | exact hE.symm | rfl), by exact Hd.fin H4⟩
  by_cases z4 : fr < 0
  · rw [if_pos (.inr (.inr (.inl z4)))] at hE
    go_wp2_with fail
    go_ret
    exact ⟨ret_int (by first | exact hE.symm | rfl), by exact Hd.fin H4⟩
  by_cases z5 : 4096 < fr
  · rw [if_pos (.inr (.inr (.inr (.inl z5))))] at hE
    go_wp2_with fail
    go_ret
    exact ⟨ret_int (by first | exact hE.symm | rfl), by exact Hd.fin H4⟩
  have h4 := tkTimes H4 (.string nm) (.int .i64 lv) (.int .i64 fr) (.slice a needs.length c) (.string cd) p f g
  unfold taskV at h4
  go_wp2_with fail
  refine h4.mono ?_
  rintro e w4 ⟨rfl, H5⟩
  clear h4 H4
  cases ht : timesOk p f g with
  | false =>
    rw [if_pos (.inr (.inr (.inr (.inr ht))))] at hE
    go_wp2_with fail
    go_ret
    exact ⟨ret_int (by first | exact hE.symm | rfl), by exact Hd.fin H5⟩
  | true =>
  rw [if_neg (by rw [ht]; simp; omega)] at hE
  have c3 := (show _ = some (.slice a needs.length c) from (H5.k w.heap.size).ce 3 rfl)
  have h5 := tkNeeds (m := m) (R := cel w.heap.size 33 #[.string nm, .int .i64 lv, .int .i64 fr, .slice a needs.length c, .string cd, .int .i64 p, .int .i64 f, .int .i64 g] :: R) (t := t) (S := S) H5 hm.out (hs.out.of fun h => h.tail) hL
  go_wp2_with fail
  refine h5.mono ?_
  rintro e w5 ⟨rfl, H6⟩
  clear h5 H5 c3
  obtain ⟨E2, hE2⟩ : ∃ E2, needsM m.units needs none = E2 := ⟨_, rfl⟩
  rw [hE2] at hE ⊢
  clear hE2
  by_cases z6 : ¬ E2 = 0
  · rw [if_neg z6] at hE
    go_wp2_with fail
    go_ret
    exact ⟨ret_int (by first | exact hE.symm | rfl), by exact Hd.fin H6⟩
  replace z6 : E2 = 0 := by omega
  subst z6
  rw [if_pos rfl] at hE
  obtain ⟨⟨vu, vr, vn, rows⟩, hx, H7⟩ := TkP.opened H6
  dsimp only at hx H7
  have h6 := stkLen_row (o := 2) ((H7.v vr).k t) rfl
  rw [hx.len] at h6
  go_wp2_with fail
  refine h6.mono ?_
  rintro e w6 ⟨rfl, rfl⟩
  clear h6 hx
  by_cases z7 : (64 : Int) ≤ m.rows.length
  · rw [if_pos z7] at hE
    go_wp2_with fail
    go_ret
    exact ⟨ret_int (by first | exact hE.symm | rfl), by exact Hd.fin H6⟩
  rw [if_neg z7] at hE
  have c0 := (show _ = some (.int .i64 m.words) from (H7.k t).ce 0 rfl)
  have c1 := (show _ = some (.int .i64 lv) from (H7.k w.heap.size).ce 1 rfl)
  have c2 := (show _ = some (.int .i64 fr) from (H7.k w.heap.size).ce 2 rfl)
  have h7 := tkWith H6.drew hm.out lv fr
  clear H7
  go_wp2_with fail
  refine wp_region_mix0 [(0, true), (1, true), (2, true), (3, true), (4, true), (6, true), (7, true), (8, true), (9, true), (5, false), (10, true), (11, true)] (fun w' => w'.cell? ⟨w.heap.size, 1, none⟩ = some (.int .i64 lv) ∧ w'.cell? ⟨w.heap.size, 2, none⟩ = some (.int .i64 fr) ∧ w'.cell? ⟨t, 0, none⟩ = some (.int .i64 m.words)) (by kernel_rfl) (by kernel_rfl) (⟨c1, c2, c0⟩) (fun _ _ d _ _ h => by cases d <;> exact h) ?_
  iterate 9 (refine mix_head (o := _) (v := ?_) (by (simp only [List.getElem?_toArray, List.getElem?_cons_succ, List.getElem?_cons_zero]); rfl) (by rfl) (fun w' hS => ?_) ?_; rotate_left 1; (focus ((try dsimp only at hS); (try go_split_ands); go_simp; (try with_reducible rfl))); (try simp only [Act.put, List.setIfInBounds_toArray, List.set_cons_zero, List.set_cons_succ]))
  refine mix_mid (o := _) (by (simp only [List.getElem?_toArray, List.getElem?_cons_succ, List.getElem?_cons_zero]); rfl) ?_
  go_wp2_with fail
  refine h7.mono ?_
  rintro e w7 ⟨rfl, H8⟩
  clear h7 H6 c0 c1 c2
  obtain ⟨⟨vu2, vr2, vn2, rows2⟩, hx2, H9⟩ := TkP.opened H8
  have c0 := (show _ = some (.int .i64 m.words) from (H9.k t).ce 0 rfl)
  have c1 := (show _ = some (.int .i64 lv) from (H9.k w.heap.size).ce 1 rfl)
  have c2 := (show _ = some (.int .i64 fr) from (H9.k w.heap.size).ce 2 rfl)
  clear H9 hx2
  go_wp2_with fail
  refine mixQ_in ⟨c1, c2, c0⟩ ?_
  iterate 2 (refine mix_head (o := _) (v := ?_) (by (simp only [List.getElem?_toArray, List.getElem?_cons_succ, List.getElem?_cons_zero]); rfl) (by rfl) (fun w' hS => ?_) ?_; rotate_left 1; (focus ((try dsimp only at hS); (try go_split_ands); go_simp; (try with_reducible rfl))); (try simp only [Act.put, List.setIfInBounds_toArray, List.set_cons_zero, List.set_cons_succ]))
  refine mix_end ?_
  (try dsimp only)
  obtain ⟨B, hB⟩ : ∃ B, withM m.rows lv fr = B := ⟨_, rfl⟩
  rw [hB] at hE ⊢
  by_cases z8 : m.words < B
  · rw [if_pos z8] at hE
    go_wp2_with fail
    go_ret
    exact ⟨ret_int (by first | exact hE.symm | rfl), by exact Hd.fin H8⟩
  · rw [if_neg z8] at hE
    go_wp2_with fail
    go_ret
    exact ⟨ret_int (by first | exact hE.symm | rfl), by exact Hd.fin H8⟩
end
end Go.Proofs.YtogcikilphakmaaGreatDoor
