/-
  Merged texts of one proof: Tk5.
-/
import Derived.Test.YtogcikilphakmaaGreatDoorG16
import Derived.Test.YtogcikilphakmaaGreatDoorG27

/-
  tasks.Table: times, steps, needs. Every task.
-/
namespace Go.Proofs.YtogcikilphakmaaGreatDoor
open Go.RowKit Spl

/-- A program's steps, or what is refused of its text. -/
def stepsOf (s : ByteArray) : List OpM × Int := if (parseM s).2.2 = 0 then stepsM (parseM s).1 else ([], (parseM s).2.2)
def needsM (units : List Int) : List NeedM → Option Int → Int
  | [], _ => 0
  | x :: l, pr => if x.res < 0 ∨ (units.length : Int) ≤ x.res ∨ x.units < 1 ∨ (units[x.res.toNat]?.getD 0) < x.units then 1
    else if (match pr with | some p => decide (x.res ≤ p) | none => false) = true then 21 else needsM units l (some x.res)
theorem needsM_cons {u : List Int} {x : NeedM} {l : List NeedM} {pr : Option Int} : needsM u (x :: l) pr = if x.res < 0 ∨ (u.length : Int) ≤ x.res ∨ x.units < 1 ∨ (u[x.res.toNat]?.getD 0) < x.units then 1
    else if (match pr with | some p => decide (x.res ≤ p) | none => false) = true then 21 else needsM u l (some x.res) := by cases pr <;> rfl
theorem mix_skip {P : Program} {ops : Array Oper} {Q : Exit → Act → World → Prop} {S : World → Prop} {T : Act → World → Prop} {k : Nat} {r : List (Nat × Bool)} {o : Oper} {a : Act} {w : World} (hi : ops[k]? = some o) (hw : Region.wanted o (yielded ops a.tmps) = false)
    (h : wpMix P ops Q S T r (a.put o.dst undef) w) : wpMix P ops Q S T ((k, true) :: r) a w := ⟨o, undef, hi, .inr ⟨hw, rfl⟩, h⟩
theorem needsM_nil {u : List Int} {pr : Option Int} : needsM u [] pr = 0 := by cases pr <;> rfl
section
variable {w0 w : World} {R : List Pr} {t : Nat} {m : TkM} {S : Hp}

set_option maxHeartbeats 400000 in
theorem tkTimes (H : Hd w0 R w) (nm lv fr nd cd : Value) (p f g : Int) :
    Calls Tryz.prog 80 #[taskV nm lv fr nd cd p f g] w fun e w' => e = .returned (.bool (timesOk p f g)) ∧ Hd w0 R w' := by
  have i0 : ∀ w, (Instr.index 199 (.agg #[.int .i64 p, .int .i64 f, .int .i64 g]) (.int .i64 0)).run Tryz.prog w = .ok (.int .i64 p) w := fun _ => by kernel_rfl
  have i1 : ∀ w, (Instr.index 199 (.agg #[.int .i64 p, .int .i64 f, .int .i64 g]) (.int .i64 1)).run Tryz.prog w = .ok (.int .i64 f) w := fun _ => by kernel_rfl
  have i2 : ∀ w, (Instr.index 199 (.agg #[.int .i64 p, .int .i64 f, .int .i64 g]) (.int .i64 2)).run Tryz.prog w = .ok (.int .i64 g) w := fun _ => by kernel_rfl
  unfold taskV
  go_enter Tryz.func80, Tryz.ntmps80
  go_wp2
  have HA := H.alloc (.cells #[nm, lv, fr, nd, cd, .int .i64 p, .int .i64 f, .int .i64 g] 33)
  go_loop [12] (fun i => ∃ k : Nat, i = .int .i64 k ∧ TimesTo p f g k) (fun i => 3 - (intOf i).toNat)
  case atStart => exact ⟨0, rfl, .inl rfl⟩
  case round =>
    obtain ⟨k, rfl, hk⟩ := hrel
    rcases hk with rfl | ⟨rfl, h1, h2⟩ | ⟨rfl, h1, h2, h3, h4⟩ | ⟨rfl, h1, h2, h3, h4, h5, h6⟩
    · go_wp2
      all_goals first
        | (go_round
           case rel => exact ⟨1, rfl, .inr (.inl ⟨rfl, by omega, by omega⟩)⟩
           case measure => simp [intOf])
        | (go_ret; exact ⟨by rw [times_no (by omega)]; rfl, HA.tail⟩)
    · go_wp2
      all_goals first
        | (go_round
           case rel => exact ⟨2, rfl, .inr (.inr (.inl ⟨rfl, h1, h2, by omega, by omega⟩))⟩
           case measure => simp [intOf])
        | (go_ret; exact ⟨by rw [times_no (by omega)]; rfl, HA.tail⟩)
    · go_wp2
      all_goals first
        | (go_round
           case rel => exact ⟨3, rfl, .inr (.inr (.inr ⟨rfl, h1, h2, h3, h4, by omega, by omega⟩))⟩
           case measure => simp [intOf])
        | (go_ret; exact ⟨by rw [times_no (by omega)]; rfl, HA.tail⟩)
    · have hV := times_last h1 h2 h3 h4 h5 h6
      by_cases e1 : p = 0
      · subst e1
        by_cases e3 : 0 < f
        · have hv : timesOk 0 f g = false := by rw [hV]; simp [e3]
          clear hV
          go_wp2
          go_ret
          exact ⟨by first | rfl | (rw [hv]; rfl), HA.tail⟩
        · have hv : timesOk 0 f g = true := by rw [hV]; simp [e3]
          clear hV
          go_wp2
          go_ret
          exact ⟨by first | rfl | (rw [hv]; rfl), HA.tail⟩
      · have e1' : (p == 0) = false := by simpa using e1
        have e2' : 0 < p := by omega
        by_cases e3 : g = 0
        · subst e3
          by_cases e4 : 0 < f
          · have hv : timesOk p f 0 = true := by rw [hV]; simp [e4, e2']
            clear hV
            go_wp2
            go_ret
            exact ⟨by first | rfl | (rw [hv]; rfl), HA.tail⟩
          · have hv : timesOk p f 0 = false := by rw [hV]; simp [e4, e2']
            clear hV
            go_wp2
            go_ret
            exact ⟨by first | rfl | (rw [hv]; rfl), HA.tail⟩
        · have e3' : (g == 0) = false := by simpa using e3
          have hv : timesOk p f g = false := by rw [hV]; simp [e1, e3]
          clear hV
          go_wp2
          go_ret
          exact ⟨by first | rfl | (rw [hv]; rfl), HA.tail⟩


set_option maxHeartbeats 1600000 in
theorem tkStepsOf [Lay w0 R] (H : Hd w0 R w) (s : ByteArray) : Calls Tryz.prog 49 #[.string s] w fun e w' => ∃ v, e = .returned (.tuple #[v, .int .i64 (stepsOf s).2]) ∧ Hd w0 (SlE 39 v (stepsOf s).1 :: R) w' := by
  have hp := cdParse H s
  by_cases hz : (parseM s).2.2 = 0
  · have e1 : stepsOf s = stepsM (parseM s).1 := by unfold stepsOf; rw [if_pos hz]
    rw [e1]
    rw [hz] at hp
    obtain ⟨P, hP⟩ : ∃ P, (parseM s).1 = P := ⟨_, rfl⟩
    rw [hP] at hp ⊢
    clear e1 hP hz
    go_enter Tryz.func49, Tryz.ntmps49
    go_wp2_with fail
    refine hp.mono ?_
    rintro e w1 ⟨v, rfl, H1⟩
    have hs := cdSteps H1 (Srd.slE H1)
    obtain ⟨a, c, rfl, -, -, -, -⟩ := H1.slc_form
    clear hp H
    go_wp2_with fail
    refine hs.mono ?_
    rintro e w2 ⟨v2, rfl, H2⟩
    go_wp2_with fail
    go_ret2
    exact ⟨_, rfl, H2.b2.tail⟩
  · have e1 : stepsOf s = ([], (parseM s).2.2) := by unfold stepsOf; rw [if_neg hz]
    rw [e1]
    obtain ⟨E, hE⟩ : ∃ E, (parseM s).2.2 = E := ⟨_, rfl⟩
    rw [hE] at hp hz ⊢
    clear e1 hE
    go_enter Tryz.func49, Tryz.ntmps49
    go_wp2_with fail
    refine hp.mono ?_
    rintro e w1 ⟨v, rfl, H1⟩
    go_wp2_with fail
    go_ret2
    exact ⟨_, rfl, H1.tail.slc_nil _ _⟩

set_option maxRecDepth 20000 in
set_option maxHeartbeats 4000000 in
theorem tkNeeds (H : Hd w0 (TkP t m S :: R) w) (hm : m.Ok) {v : Value} {L : List NeedM} (hs : Srd w0 R v L) (hL : L.length ≤ 1000000) :
    Calls Tryz.prog 81 #[.pointer (some ⟨t, 0, none⟩), v] w fun e w' => e = .returned (.int .i64 (needsM m.units L none)) ∧ Hd w0 (TkP t m S :: R) w' := by
  obtain ⟨⟨vu, vr, vn, rows⟩, hx, H1⟩ := TkP.opened H
  dsimp only at hx H1
  obtain ⟨au, cu, hvu, -, -, -, -⟩ := (H1.v vu).slc_form
  subst hvu
  have hu16 := hm.u
  obtain ⟨a, c, hv⟩ := hs.form
  subst hv
  replace hx := Lib.hid hx
  replace hs := Lib.hid hs
  clear H hm
  go_enter Tryz.func81, Tryz.ntmps81
  go_wp2_with fail
  go_loopw [9] (fun x wr => ∃ (k : Nat) (pr : Option Int), k ≤ L.length ∧ x = .int .i64 k ∧ pr = (if k = 0 then none else (L[k - 1]?).map NeedM.res) ∧ needsM m.units L none = needsM m.units (L.drop k) pr ∧ Hd w0 (cel t 104 #[.int .i64 m.words, .slice au m.units.length cu, vr, vn] :: SlE 3 (.slice au m.units.length cu) m.units :: SlE 127 vr rows :: SlE 196 vn m.names :: R) wr) (fun x _ => L.length - (intOf x).toNat)
  case atStart => exact ⟨0, none, Nat.zero_le _, rfl, rfl, rfl, H1⟩
  case round =>
    clear H1
    obtain ⟨k, pr, hk, rfl, hpr, hN, H1⟩ := hrel
    by_cases hlt : k < L.length
    · obtain ⟨x, hxk⟩ : ∃ x, L[k]? = some x := ⟨L[k], List.getElem?_eq_getElem hlt⟩
      rw [drop_at hxk, needsM_cons] at hN
      obtain ⟨g2, c2, hv2, -, hcell⟩ := hs.out.at hxk
      injection hv2 with q1 q2 q3
      subst q1; subst q3
      have f0 := hcell H1.re 0 _ rfl
      have f1 := hcell H1.re 1 _ rfl
      simp only [Enc.size, Nat.add_zero] at f0 f1
      have n1 : ¬ (k : Int) < 0 := by omega
      have n2 : (k : Int) < L.length := by omega
      have n3 : ¬ L.length ≤ k := by omega
      have g5 : IntKind.i64.wrap ((k : Int) + 1) = (k : Int) + 1 := IntWalk.i64_in _ (by omega)
      obtain ⟨xr, xu⟩ := x
      dsimp only at hN f0 f1
      have HA : Hd w0 _ (wr.alloc (.cells #[.int .i64 xr, .int .i64 xu] 58)) := H1.fol
      have d1 := (show _ = some (.slice au m.units.length cu) from (HA.k t).ce 1 rfl)
      have e0 := (show _ = some (.int .i64 xr) from (HA.k wr.heap.size).ce 0 rfl)
      have e1 := (show _ = some (.int .i64 xu) from (HA.k wr.heap.size).ce 1 rfl)
      by_cases b1 : xr < 0
      · have p1 : decide (xr < 0) = true := by simpa using b1
        rw [if_pos (.inl b1)] at hN
        replace hN := Lib.hid hN
        clear hcell q2 H1 hxk
        go_wp2_with fail
        refine wp_region_mix0 [(0, true), (1, true), (2, true), (3, true), (4, true), (5, true), (6, true), (7, true), (8, true), (9, true), (10, true), (11, true), (12, true), (13, true), (14, true), (15, true), (16, true), (17, true), (18, true), (19, true), (20, true), (21, true), (22, true), (23, true), (24, true), (25, true), (26, true), (27, true), (28, true), (29, true), (30, true), (31, true)] (fun w' => w'.cell? ⟨wr.heap.size, 0, none⟩ = some (.int .i64 xr) ∧ w'.cell? ⟨wr.heap.size, 1, none⟩ = some (.int .i64 xu) ∧ w'.cell? ⟨t, 1, none⟩ = some (.slice au m.units.length cu)) (by kernel_rfl) (by kernel_rfl) (⟨e0, e1, d1⟩) (fun _ _ d _ _ h => by cases d <;> exact h) ?_
        iterate 4 (refine mix_head (o := _) (v := ?_) (by (simp only [List.getElem?_toArray, List.getElem?_cons_succ, List.getElem?_cons_zero]); rfl) (by rfl) (fun w' hS => ?_) ?_; rotate_left 1; (focus ((try dsimp only at hS); (try go_split_ands); go_simp; (try with_reducible rfl))); (try simp only [Act.put, List.setIfInBounds_toArray, List.set_cons_zero, List.set_cons_succ]))
        iterate 8 (refine mix_skip (o := _) (by (simp only [List.getElem?_toArray, List.getElem?_cons_succ, List.getElem?_cons_zero]); rfl) (by rfl) ?_; (try simp only [Act.put, List.setIfInBounds_toArray, List.set_cons_zero, List.set_cons_succ]))
        iterate 2 (refine mix_head (o := _) (v := ?_) (by (simp only [List.getElem?_toArray, List.getElem?_cons_succ, List.getElem?_cons_zero]); rfl) (by rfl) (fun w' hS => ?_) ?_; rotate_left 1; (focus ((try dsimp only at hS); (try go_split_ands); go_simp; (try with_reducible rfl))); (try simp only [Act.put, List.setIfInBounds_toArray, List.set_cons_zero, List.set_cons_succ]))
        iterate 3 (refine mix_skip (o := _) (by (simp only [List.getElem?_toArray, List.getElem?_cons_succ, List.getElem?_cons_zero]); rfl) (by rfl) ?_; (try simp only [Act.put, List.setIfInBounds_toArray, List.set_cons_zero, List.set_cons_succ]))
        iterate 2 (refine mix_head (o := _) (v := ?_) (by (simp only [List.getElem?_toArray, List.getElem?_cons_succ, List.getElem?_cons_zero]); rfl) (by rfl) (fun w' hS => ?_) ?_; rotate_left 1; (focus ((try dsimp only at hS); (try go_split_ands); go_simp; (try with_reducible rfl))); (try simp only [Act.put, List.setIfInBounds_toArray, List.set_cons_zero, List.set_cons_succ]))
        iterate 11 (refine mix_skip (o := _) (by (simp only [List.getElem?_toArray, List.getElem?_cons_succ, List.getElem?_cons_zero]); rfl) (by rfl) ?_; (try simp only [Act.put, List.setIfInBounds_toArray, List.set_cons_zero, List.set_cons_succ]))
        iterate 2 (refine mix_head (o := _) (v := ?_) (by (simp only [List.getElem?_toArray, List.getElem?_cons_succ, List.getElem?_cons_zero]); rfl) (by rfl) (fun w' hS => ?_) ?_; rotate_left 1; (focus ((try dsimp only at hS); (try go_split_ands); go_simp; (try with_reducible rfl))); (try simp only [Act.put, List.setIfInBounds_toArray, List.set_cons_zero, List.set_cons_succ]))
        refine mix_end ?_
        (try dsimp only)
        go_wp2_with fail
        go_ret
        exact ⟨ret_int hN.out, TkP.shut (x := ⟨.slice au m.units.length cu, vr, vn, rows⟩) (by exact Hd.fin HA) hx.out⟩
      have p1 : decide (xr < 0) = false := by simpa using b1
      by_cases b2 : (m.units.length : Int) ≤ xr
      · have p2 : decide ((m.units.length : Int) ≤ xr) = true := by simpa using b2
        rw [if_pos (.inr (.inl b2))] at hN
        replace hN := Lib.hid hN
        clear hcell q2 H1 hxk
        go_wp2_with fail
        refine wp_region_mix0 [(0, true), (1, true), (2, true), (3, true), (4, true), (5, true), (6, true), (7, true), (8, true), (9, true), (10, true), (11, true), (12, true), (13, true), (14, true), (15, true), (16, true), (17, true), (18, true), (19, true), (20, true), (21, true), (22, true), (23, true), (24, true), (25, true), (26, true), (27, true), (28, true), (29, true), (30, true), (31, true)] (fun w' => w'.cell? ⟨wr.heap.size, 0, none⟩ = some (.int .i64 xr) ∧ w'.cell? ⟨wr.heap.size, 1, none⟩ = some (.int .i64 xu) ∧ w'.cell? ⟨t, 1, none⟩ = some (.slice au m.units.length cu)) (by kernel_rfl) (by kernel_rfl) (⟨e0, e1, d1⟩) (fun _ _ d _ _ h => by cases d <;> exact h) ?_
        iterate 4 (refine mix_head (o := _) (v := ?_) (by (simp only [List.getElem?_toArray, List.getElem?_cons_succ, List.getElem?_cons_zero]); rfl) (by rfl) (fun w' hS => ?_) ?_; rotate_left 1; (focus ((try dsimp only at hS); (try go_split_ands); go_simp; (try with_reducible rfl))); (try simp only [Act.put, List.setIfInBounds_toArray, List.set_cons_zero, List.set_cons_succ]))
        iterate 8 (refine mix_head (o := _) (v := ?_) (by (simp only [List.getElem?_toArray, List.getElem?_cons_succ, List.getElem?_cons_zero]); rfl) (by rfl) (fun w' hS => ?_) ?_; rotate_left 1; (focus ((try dsimp only at hS); (try go_split_ands); go_simp; (try with_reducible rfl))); (try simp only [Act.put, List.setIfInBounds_toArray, List.set_cons_zero, List.set_cons_succ]))
        iterate 2 (refine mix_head (o := _) (v := ?_) (by (simp only [List.getElem?_toArray, List.getElem?_cons_succ, List.getElem?_cons_zero]); rfl) (by rfl) (fun w' hS => ?_) ?_; rotate_left 1; (focus ((try dsimp only at hS); (try go_split_ands); go_simp; (try with_reducible rfl))); (try simp only [Act.put, List.setIfInBounds_toArray, List.set_cons_zero, List.set_cons_succ]))
        iterate 3 (refine mix_skip (o := _) (by (simp only [List.getElem?_toArray, List.getElem?_cons_succ, List.getElem?_cons_zero]); rfl) (by rfl) ?_; (try simp only [Act.put, List.setIfInBounds_toArray, List.set_cons_zero, List.set_cons_succ]))
        iterate 2 (refine mix_head (o := _) (v := ?_) (by (simp only [List.getElem?_toArray, List.getElem?_cons_succ, List.getElem?_cons_zero]); rfl) (by rfl) (fun w' hS => ?_) ?_; rotate_left 1; (focus ((try dsimp only at hS); (try go_split_ands); go_simp; (try with_reducible rfl))); (try simp only [Act.put, List.setIfInBounds_toArray, List.set_cons_zero, List.set_cons_succ]))
        iterate 11 (refine mix_skip (o := _) (by (simp only [List.getElem?_toArray, List.getElem?_cons_succ, List.getElem?_cons_zero]); rfl) (by rfl) ?_; (try simp only [Act.put, List.setIfInBounds_toArray, List.set_cons_zero, List.set_cons_succ]))
        iterate 2 (refine mix_head (o := _) (v := ?_) (by (simp only [List.getElem?_toArray, List.getElem?_cons_succ, List.getElem?_cons_zero]); rfl) (by rfl) (fun w' hS => ?_) ?_; rotate_left 1; (focus ((try dsimp only at hS); (try go_split_ands); go_simp; (try with_reducible rfl))); (try simp only [Act.put, List.setIfInBounds_toArray, List.set_cons_zero, List.set_cons_succ]))
        refine mix_end ?_
        (try dsimp only)
        go_wp2_with fail
        go_ret
        exact ⟨ret_int hN.out, TkP.shut (x := ⟨.slice au m.units.length cu, vr, vn, rows⟩) (by exact Hd.fin HA) hx.out⟩
      have p2 : decide ((m.units.length : Int) ≤ xr) = false := by simpa using b2
      by_cases b3 : xu < 1
      · have p3 : decide (xu < 1) = true := by simpa using b3
        rw [if_pos (.inr (.inr (.inl b3)))] at hN
        replace hN := Lib.hid hN
        clear hcell q2 H1 hxk
        go_wp2_with fail
        refine wp_region_mix0 [(0, true), (1, true), (2, true), (3, true), (4, true), (5, true), (6, true), (7, true), (8, true), (9, true), (10, true), (11, true), (12, true), (13, true), (14, true), (15, true), (16, true), (17, true), (18, true), (19, true), (20, true), (21, true), (22, true), (23, true), (24, true), (25, true), (26, true), (27, true), (28, true), (29, true), (30, true), (31, true)] (fun w' => w'.cell? ⟨wr.heap.size, 0, none⟩ = some (.int .i64 xr) ∧ w'.cell? ⟨wr.heap.size, 1, none⟩ = some (.int .i64 xu) ∧ w'.cell? ⟨t, 1, none⟩ = some (.slice au m.units.length cu)) (by kernel_rfl) (by kernel_rfl) (⟨e0, e1, d1⟩) (fun _ _ d _ _ h => by cases d <;> exact h) ?_
        iterate 4 (refine mix_head (o := _) (v := ?_) (by (simp only [List.getElem?_toArray, List.getElem?_cons_succ, List.getElem?_cons_zero]); rfl) (by rfl) (fun w' hS => ?_) ?_; rotate_left 1; (focus ((try dsimp only at hS); (try go_split_ands); go_simp; (try with_reducible rfl))); (try simp only [Act.put, List.setIfInBounds_toArray, List.set_cons_zero, List.set_cons_succ]))
        iterate 8 (refine mix_head (o := _) (v := ?_) (by (simp only [List.getElem?_toArray, List.getElem?_cons_succ, List.getElem?_cons_zero]); rfl) (by rfl) (fun w' hS => ?_) ?_; rotate_left 1; (focus ((try dsimp only at hS); (try go_split_ands); go_simp; (try with_reducible rfl))); (try simp only [Act.put, List.setIfInBounds_toArray, List.set_cons_zero, List.set_cons_succ]))
        iterate 2 (refine mix_head (o := _) (v := ?_) (by (simp only [List.getElem?_toArray, List.getElem?_cons_succ, List.getElem?_cons_zero]); rfl) (by rfl) (fun w' hS => ?_) ?_; rotate_left 1; (focus ((try dsimp only at hS); (try go_split_ands); go_simp; (try with_reducible rfl))); (try simp only [Act.put, List.setIfInBounds_toArray, List.set_cons_zero, List.set_cons_succ]))
        iterate 3 (refine mix_head (o := _) (v := ?_) (by (simp only [List.getElem?_toArray, List.getElem?_cons_succ, List.getElem?_cons_zero]); rfl) (by rfl) (fun w' hS => ?_) ?_; rotate_left 1; (focus ((try dsimp only at hS); (try go_split_ands); go_simp; (try with_reducible rfl))); (try simp only [Act.put, List.setIfInBounds_toArray, List.set_cons_zero, List.set_cons_succ]))
        iterate 2 (refine mix_head (o := _) (v := ?_) (by (simp only [List.getElem?_toArray, List.getElem?_cons_succ, List.getElem?_cons_zero]); rfl) (by rfl) (fun w' hS => ?_) ?_; rotate_left 1; (focus ((try dsimp only at hS); (try go_split_ands); go_simp; (try with_reducible rfl))); (try simp only [Act.put, List.setIfInBounds_toArray, List.set_cons_zero, List.set_cons_succ]))
        iterate 11 (refine mix_skip (o := _) (by (simp only [List.getElem?_toArray, List.getElem?_cons_succ, List.getElem?_cons_zero]); rfl) (by rfl) ?_; (try simp only [Act.put, List.setIfInBounds_toArray, List.set_cons_zero, List.set_cons_succ]))
        iterate 2 (refine mix_head (o := _) (v := ?_) (by (simp only [List.getElem?_toArray, List.getElem?_cons_succ, List.getElem?_cons_zero]); rfl) (by rfl) (fun w' hS => ?_) ?_; rotate_left 1; (focus ((try dsimp only at hS); (try go_split_ands); go_simp; (try with_reducible rfl))); (try simp only [Act.put, List.setIfInBounds_toArray, List.set_cons_zero, List.set_cons_succ]))
        refine mix_end ?_
        (try dsimp only)
        go_wp2_with fail
        go_ret
        exact ⟨ret_int hN.out, TkP.shut (x := ⟨.slice au m.units.length cu, vr, vn, rows⟩) (by exact Hd.fin HA) hx.out⟩
      have p3 : decide (xu < 1) = false := by simpa using b3
      obtain ⟨r, rfl⟩ : ∃ r : Nat, xr = r := ⟨xr.toNat, by omega⟩
      have hrl : r < m.units.length := by omega
      obtain ⟨U, hU⟩ : ∃ U, m.units[r]? = some U := ⟨m.units[r], List.getElem?_eq_getElem hrl⟩
      rw [Int.toNat_natCast, hU, Option.getD_some] at hN
      obtain ⟨gu, cu2, hvu, -, -, -, hcu⟩ := (HA.v (.slice au m.units.length cu)).slE_at hU
      injection hvu with r1 r2 r3
      subst r1; subst r3
      have u0 := hcu 0 _ rfl
      simp only [Enc.size, Nat.add_zero, Nat.mul_one] at u0
      have m1 : ¬ m.units.length ≤ r := by omega
      have m2 : (r : Int) < m.units.length := by omega
      have m3 : (0 : Int) ≤ r := by omega
      have m4 : (r : Int) ≤ m.units.length := by omega
      clear hcell hcu q2 r2 H1 hU
      by_cases b4 : U < xu
      · have p4 : decide (U < xu) = true := by simpa using b4
        rw [if_pos (.inr (.inr (.inr b4)))] at hN
        replace hN := Lib.hid hN
        go_wp2_with fail
        refine wp_region_mix0 [(0, true), (1, true), (2, true), (3, true), (4, true), (5, true), (6, true), (7, true), (8, true), (9, true), (10, true), (11, true), (12, true), (13, true), (14, true), (15, true), (16, true), (17, true), (18, true), (19, true), (20, true), (21, true), (22, true), (23, true), (24, true), (25, true), (26, true), (27, true), (28, true), (29, true), (30, true), (31, true)] (fun w' => w'.cell? ⟨wr.heap.size, 0, none⟩ = some (.int .i64 r) ∧ w'.cell? ⟨wr.heap.size, 1, none⟩ = some (.int .i64 xu) ∧ w'.cell? ⟨t, 1, none⟩ = some (.slice (some ⟨gu, 0, none⟩) m.units.length cu) ∧ w'.cell? ⟨gu, r, none⟩ = some (.int .i64 U)) (by kernel_rfl) (by kernel_rfl) (⟨e0, e1, d1, u0⟩) (fun _ _ d _ _ h => by cases d <;> exact h) ?_
        iterate 32 (refine mix_head (o := _) (v := ?_) (by (simp only [List.getElem?_toArray, List.getElem?_cons_succ, List.getElem?_cons_zero]); rfl) (by rfl) (fun w' hS => ?_) ?_; rotate_left 1; (focus ((try dsimp only at hS); (try go_split_ands); go_simp; (try with_reducible rfl))); (try simp only [Act.put, List.setIfInBounds_toArray, List.set_cons_zero, List.set_cons_succ]))
        refine mix_end ?_
        (try dsimp only)
        go_wp2_with fail
        go_ret
        exact ⟨ret_int hN.out, TkP.shut (x := ⟨.slice (some ⟨gu, 0, none⟩) m.units.length cu, vr, vn, rows⟩) (by exact Hd.fin HA) hx.out⟩
      have p4 : decide (U < xu) = false := by simpa using b4
      rw [if_neg (by omega)] at hN
      rcases Nat.eq_zero_or_pos k with rfl | hk0
      · rw [if_pos rfl] at hpr
        subst hpr
        rw [if_neg (by simp)] at hN
        replace hN := Lib.hid hN
        have hp2 := Lib.hid (show some (r : Int) = (if 0 + 1 = 0 then none else (L[0 + 1 - 1]?).map NeedM.res) by rw [if_neg (by decide), Nat.add_sub_cancel, hxk]; rfl)
        clear hxk
        go_wp2_with fail
        refine wp_region_mix0 [(0, true), (1, true), (2, true), (3, true), (4, true), (5, true), (6, true), (7, true), (8, true), (9, true), (10, true), (11, true), (12, true), (13, true), (14, true), (15, true), (16, true), (17, true), (18, true), (19, true), (20, true), (21, true), (22, true), (23, true), (24, true), (25, true), (26, true), (27, true), (28, true), (29, true), (30, true), (31, true)] (fun w' => w'.cell? ⟨wr.heap.size, 0, none⟩ = some (.int .i64 r) ∧ w'.cell? ⟨wr.heap.size, 1, none⟩ = some (.int .i64 xu) ∧ w'.cell? ⟨t, 1, none⟩ = some (.slice (some ⟨gu, 0, none⟩) m.units.length cu) ∧ w'.cell? ⟨gu, r, none⟩ = some (.int .i64 U)) (by kernel_rfl) (by kernel_rfl) (⟨e0, e1, d1, u0⟩) (fun _ _ d _ _ h => by cases d <;> exact h) ?_
        iterate 32 (refine mix_head (o := _) (v := ?_) (by (simp only [List.getElem?_toArray, List.getElem?_cons_succ, List.getElem?_cons_zero]); rfl) (by rfl) (fun w' hS => ?_) ?_; rotate_left 1; (focus ((try dsimp only at hS); (try go_split_ands); go_simp; (try with_reducible rfl))); (try simp only [Act.put, List.setIfInBounds_toArray, List.set_cons_zero, List.set_cons_succ]))
        refine mix_end ?_
        (try dsimp only)
        go_wp2_with fail
        go_quiet (fail)
        go_wp2_with fail
        go_roundw
        case rel => exact ⟨1, some (r : Int), by omega, by simp, hp2.out, hN.out, by exact Hd.fin HA⟩
        case measure => simp [intOf]; omega
      · rw [if_neg (by omega)] at hpr
        obtain ⟨y, hy⟩ : ∃ y, L[k - 1]? = some y := ⟨L[k - 1]'(by omega), List.getElem?_eq_getElem _⟩
        rw [hy] at hpr
        obtain ⟨yr, yu⟩ := y
        have hpr2 : pr = some yr := hpr
        subst hpr2
        clear hpr
        obtain ⟨g3, c3, hv3, -, hcell3⟩ := hs.out.at hy
        injection hv3 with q1 q2 q3
        injection q1 with q1
        injection q1 with q1
        subst q1; subst q3
        have HR : Hd w0 R (wr.alloc (.cells #[.int .i64 (r : Int), .int .i64 xu] 58)) := HA.re
        have y0 := hcell3 HR 0 _ rfl
        simp only [Enc.size, Nat.add_zero] at y0
        obtain ⟨k', rfl⟩ : ∃ k', k = k' + 1 := ⟨k - 1, by omega⟩
        rw [Nat.add_sub_cancel] at y0 hy
        have g7 : IntKind.i64.wrap (((k' + 1 : Nat) : Int) - 1) = (k' : Int) := by rw [IntWalk.i64_in _ (by omega)]; omega
        have g8 : IntKind.i64.wrap ((k' : Int) + 1 - 1) = (k' : Int) := by rw [IntWalk.i64_in _ (by omega)]; omega
        have g9 : IntKind.i64.wrap (k' : Int) = (k' : Int) := IntWalk.i64_in _ (by omega)
        have g10 : IntKind.i64.wrap ((k' : Int) + 1 + 1) = (k' : Int) + 1 + 1 := IntWalk.i64_in _ (by omega)
        have m5 : (k' : Int) < L.length := by omega
        have m6 : ¬ (k' : Int) < 0 := by omega
        have m7 : ¬ L.length ≤ k' := by omega
        have m8 : (0 : Int) < (k' : Int) + 1 := by omega
        have m9 : (0 : Int) ≤ k' := by omega
        have hp2 := Lib.hid (show some (r : Int) = (if k' + 1 + 1 = 0 then none else (L[k' + 1 + 1 - 1]?).map NeedM.res) by rw [if_neg (by omega), Nat.add_sub_cancel, hxk]; rfl)
        clear hxk hcell3 hy q2
        by_cases b5 : (r : Int) ≤ yr
        · rw [if_pos (by simpa using b5)] at hN
          replace hN := Lib.hid hN
          go_wp2_with fail
          refine wp_region_mix0 [(0, true), (1, true), (2, true), (3, true), (4, true), (5, true), (6, true), (7, true), (8, true), (9, true), (10, true), (11, true), (12, true), (13, true), (14, true), (15, true), (16, true), (17, true), (18, true), (19, true), (20, true), (21, true), (22, true), (23, true), (24, true), (25, true), (26, true), (27, true), (28, true), (29, true), (30, true), (31, true)] (fun w' => w'.cell? ⟨wr.heap.size, 0, none⟩ = some (.int .i64 r) ∧ w'.cell? ⟨wr.heap.size, 1, none⟩ = some (.int .i64 xu) ∧ w'.cell? ⟨t, 1, none⟩ = some (.slice (some ⟨gu, 0, none⟩) m.units.length cu) ∧ w'.cell? ⟨gu, r, none⟩ = some (.int .i64 U)) (by kernel_rfl) (by kernel_rfl) (⟨e0, e1, d1, u0⟩) (fun _ _ d _ _ h => by cases d <;> exact h) ?_
          iterate 32 (refine mix_head (o := _) (v := ?_) (by (simp only [List.getElem?_toArray, List.getElem?_cons_succ, List.getElem?_cons_zero]); rfl) (by rfl) (fun w' hS => ?_) ?_; rotate_left 1; (focus ((try dsimp only at hS); (try go_split_ands); go_simp; (try with_reducible rfl))); (try simp only [Act.put, List.setIfInBounds_toArray, List.set_cons_zero, List.set_cons_succ]))
          refine mix_end ?_
          (try dsimp only)
          go_wp2_with fail
          go_quiet (fail)
          go_wp2_with fail
          go_ret
          exact ⟨ret_int hN.out, TkP.shut (x := ⟨.slice (some ⟨gu, 0, none⟩) m.units.length cu, vr, vn, rows⟩) (by exact Hd.fin HA) hx.out⟩
        · rw [if_neg (by simpa using b5)] at hN
          replace hN := Lib.hid hN
          go_wp2_with fail
          refine wp_region_mix0 [(0, true), (1, true), (2, true), (3, true), (4, true), (5, true), (6, true), (7, true), (8, true), (9, true), (10, true), (11, true), (12, true), (13, true), (14, true), (15, true), (16, true), (17, true), (18, true), (19, true), (20, true), (21, true), (22, true), (23, true), (24, true), (25, true), (26, true), (27, true), (28, true), (29, true), (30, true), (31, true)] (fun w' => w'.cell? ⟨wr.heap.size, 0, none⟩ = some (.int .i64 r) ∧ w'.cell? ⟨wr.heap.size, 1, none⟩ = some (.int .i64 xu) ∧ w'.cell? ⟨t, 1, none⟩ = some (.slice (some ⟨gu, 0, none⟩) m.units.length cu) ∧ w'.cell? ⟨gu, r, none⟩ = some (.int .i64 U)) (by kernel_rfl) (by kernel_rfl) (⟨e0, e1, d1, u0⟩) (fun _ _ d _ _ h => by cases d <;> exact h) ?_
          iterate 32 (refine mix_head (o := _) (v := ?_) (by (simp only [List.getElem?_toArray, List.getElem?_cons_succ, List.getElem?_cons_zero]); rfl) (by rfl) (fun w' hS => ?_) ?_; rotate_left 1; (focus ((try dsimp only at hS); (try go_split_ands); go_simp; (try with_reducible rfl))); (try simp only [Act.put, List.setIfInBounds_toArray, List.set_cons_zero, List.set_cons_succ]))
          refine mix_end ?_
          (try dsimp only)
          go_wp2_with fail
          go_quiet (fail)
          go_wp2_with fail
          go_roundw
          case rel => exact ⟨k' + 1 + 1, some (r : Int), by omega, by simp, hp2.out, hN.out, by exact Hd.fin HA⟩
          case measure => simp [intOf]; omega
    · obtain rfl : k = L.length := by omega
      rw [List.drop_length, needsM_nil] at hN
      replace hN := Lib.hid hN
      go_wp2_with fail
      go_ret
      exact ⟨ret_int hN.out, TkP.shut (x := ⟨_, vr, vn, rows⟩) H1 hx.out⟩
end
end Go.Proofs.YtogcikilphakmaaGreatDoor
