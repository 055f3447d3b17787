/-
  Merged texts of one proof: Tk6, Tk7, Tk8, Un3.
-/
import Derived.Deep.MidRow
import Derived.Test.YtogcikilphakmaaGreatDoorG18
import Derived.Test.YtogcikilphakmaaGreatDoorG28

/-
  tasks.Table: Check. Every task.
-/
namespace Go.Proofs.YtogcikilphakmaaGreatDoor
open Go.RowKit Spl

/-- Why a task would not be added. -/
def checkTk (m : TkM) (x : TaskM) : Int :=
  if (stepsOf x.cd).2 = 0 then
    if legalM x.nm = true then
      if (rowAt m.names x.nm).isSome = true then 3
      else if x.lv < 1 ∨ 32 < x.lv ∨ x.fr < 0 ∨ 4096 < x.fr ∨ timesOk x.p x.f x.g = false then 1
      else if needsM m.units x.needs none = 0 then (if (64 : Int) ≤ m.rows.length then 4 else if m.words < withM m.rows x.lv x.fr then 25 else 0)
      else needsM m.units x.needs none
    else 2
  else (stepsOf x.cd).2
section
variable {w0 w : World} {R : List Pr} {t : Nat} {m : TkM} {S : Hp}

set_option maxRecDepth 20000 in
set_option maxHeartbeats 4000000 in
theorem tkCheck [Lay w0 R] (H : Hd w0 (TkP t m S :: R) w) (hm : m.Ok) (x : TaskM) {nv : Value} (hs : Srd w0 R nv x.needs) (hL : x.needs.length ≤ 1000000) :
    Calls Tryz.prog 46 #[.pointer (some ⟨t, 0, none⟩), .agg #[.string x.nm, .int .i64 x.lv, .int .i64 x.fr, nv, .string x.cd, .int .i64 x.p, .int .i64 x.f, .int .i64 x.g]] w fun e w' => e = .returned (.int .i64 (checkTk m x)) ∧ Hd w0 (TkP t m S :: R) w' := by
  obtain ⟨E, hE⟩ : ∃ E, checkTk m x = E := ⟨_, rfl⟩
  rw [hE]
  unfold checkTk at hE
  obtain ⟨a, c, hv⟩ := hs.form
  subst hv
  obtain ⟨nm, lv, fr, needs, cd, p, f, g⟩ := x
  dsimp only at hE hs hL
  obtain ⟨C, hC⟩ : ∃ C : Array Value, C = #[.string nm, .int .i64 lv, .int .i64 fr, .slice a needs.length c, .string cd, .int .i64 p, .int .i64 f, .int .i64 g] := ⟨_, rfl⟩
  have H1 : Hd w0 _ (w.alloc (.cells #[.string nm, .int .i64 lv, .int .i64 fr, .slice a needs.length c, .string cd, .int .i64 p, .int .i64 f, .int .i64 g] 33)) := H.fol
  have h1 := tkStepsOf H1 cd
  replace hs := Lib.hid hs
  replace hm := Lib.hid hm
  clear H H1 hC
  go_enter Tryz.func46, Tryz.ntmps46
  go_wp2_with fail
  refine h1.mono ?_
  rintro e w1 ⟨sv, rfl, H2⟩
  clear h1
  replace H2 := H2.tail
  obtain ⟨E1, hE1⟩ : ∃ E1, (stepsOf cd).2 = E1 := ⟨_, rfl⟩
  rw [hE1] at hE ⊢
  clear hE1
  by_cases z1 : ¬ E1 = 0
  · rw [if_neg z1] at hE
    go_wp2_with fail
    go_ret
    exact ⟨ret_int (by first | exact hE.symm | rfl), H2.tail⟩
  replace z1 : E1 = 0 := by omega
  subst z1
  rw [if_pos rfl] at hE
  have c0 := (show _ = some (.string nm) from (H2.k w.heap.size).ce 0 rfl)
  have h2 := cdLegal (w := w1) nm
  go_wp2_with fail
  refine h2.mono ?_
  rintro e w2 ⟨rfl, rfl⟩
  clear h2
  cases hlg : legalM nm with
  | false =>
    rw [hlg, if_neg (by decide)] at hE
    go_wp2_with fail
    go_ret
    exact ⟨ret_int (by first | exact hE.symm | rfl), H2.tail⟩
  | true =>
  rw [hlg, if_pos rfl] at hE
  obtain ⟨⟨vu, vr, vn, rows⟩, hx, H3⟩ := TkP.opened (H2.k t)
  dsimp only at hx H3
  have hg : ∀ w3, Hd w0 (cel t 104 #[.int .i64 m.words, vu, vr, vn] :: SlE 3 vu m.units :: SlE 127 vr rows :: SlE 196 vn m.names :: cel w.heap.size 33 #[.string nm, .int .i64 lv, .int .i64 fr, .slice a needs.length c, .string cd, .int .i64 p, .int .i64 f, .int .i64 g] :: R) w3 →
      Calls Tryz.prog 79 #[.pointer (some ⟨t, 3, none⟩), .string nm] w3 fun e w' => (∃ i, e = .returned (.tuple #[.int .i64 i, .bool (rowAt m.names nm).isSome])) ∧ Hd w0 (TkP t m S :: cel w.heap.size 33 #[.string nm, .int .i64 lv, .int .i64 fr, .slice a needs.length c, .string cd, .int .i64 p, .int .i64 f, .int .i64 g] :: R) w' := fun w3 h3 => by
    cases hr : rowAt m.names nm with
    | none =>
      refine (getNo_name (o := 3) ((h3.v vn).k t) rfl hm.out.nm (by have := hm.out.nn; have := hm.out.n; omega) nm hr).mono ?_
      rintro e w' ⟨rfl, h4⟩
      exact ⟨⟨_, rfl⟩, TkP.shut (x := ⟨vu, vr, vn, rows⟩) h4.re hx⟩
    | some y =>
      refine (get_name (o := 3) ((h3.v vn).k t) rfl hm.out.nm (by have := hm.out.nn; have := hm.out.n; omega) nm hr).mono ?_
      rintro e w' ⟨rfl, h4⟩
      exact ⟨⟨_, rfl⟩, TkP.shut (x := ⟨vu, vr, vn, rows⟩) h4.re hx⟩
  have h3 := hg _ H3.re.drew
  clear hg hx c0
  have c0 := (show _ = some (.string nm) from (H3.k w.heap.size).ce 0 rfl)
  go_wp2_with fail
  refine wp_region_mix0 [(0, true), (1, true), (2, true), (3, true), (4, true), (5, false), (6, true), (7, true), (8, true), (9, true), (10, true)] (fun w' => w'.cell? ⟨w.heap.size, 0, none⟩ = some (.string nm)) (by kernel_rfl) (by kernel_rfl) (c0) (fun _ _ d _ _ h => by cases d <;> exact h) ?_
  iterate 5 (refine mix_head (o := _) (v := ?_) (by (simp only [List.getElem?_toArray, List.getElem?_cons_succ, List.getElem?_cons_zero]); rfl) (by rfl) (fun w' hS => ?_) ?_; rotate_left 1; (focus ((try dsimp only at hS); (try go_split_ands); go_simp; (try with_reducible rfl))); (try simp only [Act.put, List.setIfInBounds_toArray, List.set_cons_zero, List.set_cons_succ]))
  refine mix_mid (o := _) (by (simp only [List.getElem?_toArray, List.getElem?_cons_succ, List.getElem?_cons_zero]); rfl) ?_
  go_wp2_with fail
  refine h3.mono ?_
  rintro e w3 ⟨⟨i, rfl⟩, H4⟩
  clear h3 H3 H2
  have c1 := (show _ = some (.string nm) from (H4.k w.heap.size).ce 0 rfl)
  go_wp2_with fail
  refine mixQ_in c1 ?_
  iterate 5 (refine mix_head (o := _) (v := ?_) (by (simp only [List.getElem?_toArray, List.getElem?_cons_succ, List.getElem?_cons_zero]); rfl) (by rfl) (fun w' hS => ?_) ?_; rotate_left 1; (focus ((try dsimp only at hS); (try go_split_ands); go_simp; (try with_reducible rfl))); (try simp only [Act.put, List.setIfInBounds_toArray, List.set_cons_zero, List.set_cons_succ]))
  refine mix_end ?_
  (try dsimp only)
  cases hr : (rowAt m.names nm).isSome with
  | true =>
    rw [hr, if_pos rfl] at hE
    go_wp2_with fail
    go_ret
    exact ⟨ret_int (by first | exact hE.symm | rfl), by exact Hd.fin H4⟩
  | false =>
  rw [hr, if_neg (by decide)] at hE
  have hf := H4.facts
  simp only [Nat.reduceAdd] at hf
  go_split_ands
  by_cases z2 : lv < 1
  · rw [if_pos (.inl z2)] at hE
    go_wp2_with fail
    go_ret
    exact ⟨ret_int (by first | exact hE.symm | rfl), by exact Hd.fin H4⟩
  by_cases z3 : 32 < lv
  · rw [if_pos (.inr (.inl z3))] at hE
    go_wp2_with fail
    go_ret
    exact ⟨ret_int (by first | exact hE.symm | rfl), by exact Hd.fin H4⟩
  by_cases z4 : fr < 0
  · rw [if_pos (.inr (.inr (.inl z4)))] at hE
    go_wp2_with fail
    go_ret
    exact ⟨ret_int (by first | exact hE.symm | rfl), by exact Hd.fin H4⟩
  by_cases z5 : 4096 < fr
  · rw [if_pos (.inr (.inr (.inr (.inl z5))))] at hE
    go_wp2_with fail
    go_ret
    exact ⟨ret_int (by first | exact hE.symm | rfl), by exact Hd.fin H4⟩
  have h4 := tkTimes H4 (.string nm) (.int .i64 lv) (.int .i64 fr) (.slice a needs.length c) (.string cd) p f g
  unfold taskV at h4
  go_wp2_with fail
  refine h4.mono ?_
  rintro e w4 ⟨rfl, H5⟩
  clear h4 H4
  cases ht : timesOk p f g with
  | false =>
    rw [if_pos (.inr (.inr (.inr (.inr ht))))] at hE
    go_wp2_with fail
    go_ret
    exact ⟨ret_int (by first | exact hE.symm | rfl), by exact Hd.fin H5⟩
  | true =>
  rw [if_neg (by rw [ht]; simp; omega)] at hE
  have c3 := (show _ = some (.slice a needs.length c) from (H5.k w.heap.size).ce 3 rfl)
  have h5 := tkNeeds (m := m) (R := cel w.heap.size 33 #[.string nm, .int .i64 lv, .int .i64 fr, .slice a needs.length c, .string cd, .int .i64 p, .int .i64 f, .int .i64 g] :: R) (t := t) (S := S) H5 hm.out (hs.out.of fun h => h.tail) hL
  go_wp2_with fail
  refine h5.mono ?_
  rintro e w5 ⟨rfl, H6⟩
  clear h5 H5 c3
  obtain ⟨E2, hE2⟩ : ∃ E2, needsM m.units needs none = E2 := ⟨_, rfl⟩
  rw [hE2] at hE ⊢
  clear hE2
  by_cases z6 : ¬ E2 = 0
  · rw [if_neg z6] at hE
    go_wp2_with fail
    go_ret
    exact ⟨ret_int (by first | exact hE.symm | rfl), by exact Hd.fin H6⟩
  replace z6 : E2 = 0 := by omega
  subst z6
  rw [if_pos rfl] at hE
  obtain ⟨⟨vu, vr, vn, rows⟩, hx, H7⟩ := TkP.opened H6
  dsimp only at hx H7
  have h6 := stkLen_row (o := 2) ((H7.v vr).k t) rfl
  rw [hx.len] at h6
  go_wp2_with fail
  refine h6.mono ?_
  rintro e w6 ⟨rfl, rfl⟩
  clear h6 hx
  by_cases z7 : (64 : Int) ≤ m.rows.length
  · rw [if_pos z7] at hE
    go_wp2_with fail
    go_ret
    exact ⟨ret_int (by first | exact hE.symm | rfl), by exact Hd.fin H6⟩
  rw [if_neg z7] at hE
  have c0 := (show _ = some (.int .i64 m.words) from (H7.k t).ce 0 rfl)
  have c1 := (show _ = some (.int .i64 lv) from (H7.k w.heap.size).ce 1 rfl)
  have c2 := (show _ = some (.int .i64 fr) from (H7.k w.heap.size).ce 2 rfl)
  have h7 := tkWith H6.drew hm.out lv fr
  clear H7
  go_wp2_with fail
  refine wp_region_mix0 [(0, true), (1, true), (2, true), (3, true), (4, true), (6, true), (7, true), (8, true), (9, true), (5, false), (10, true), (11, true)] (fun w' => w'.cell? ⟨w.heap.size, 1, none⟩ = some (.int .i64 lv) ∧ w'.cell? ⟨w.heap.size, 2, none⟩ = some (.int .i64 fr) ∧ w'.cell? ⟨t, 0, none⟩ = some (.int .i64 m.words)) (by kernel_rfl) (by kernel_rfl) (⟨c1, c2, c0⟩) (fun _ _ d _ _ h => by cases d <;> exact h) ?_
  iterate 9 (refine mix_head (o := _) (v := ?_) (by (simp only [List.getElem?_toArray, List.getElem?_cons_succ, List.getElem?_cons_zero]); rfl) (by rfl) (fun w' hS => ?_) ?_; rotate_left 1; (focus ((try dsimp only at hS); (try go_split_ands); go_simp; (try with_reducible rfl))); (try simp only [Act.put, List.setIfInBounds_toArray, List.set_cons_zero, List.set_cons_succ]))
  refine mix_mid (o := _) (by (simp only [List.getElem?_toArray, List.getElem?_cons_succ, List.getElem?_cons_zero]); rfl) ?_
  go_wp2_with fail
  refine h7.mono ?_
  rintro e w7 ⟨rfl, H8⟩
  clear h7 H6 c0 c1 c2
  obtain ⟨⟨vu2, vr2, vn2, rows2⟩, hx2, H9⟩ := TkP.opened H8
  have c0 := (show _ = some (.int .i64 m.words) from (H9.k t).ce 0 rfl)
  have c1 := (show _ = some (.int .i64 lv) from (H9.k w.heap.size).ce 1 rfl)
  have c2 := (show _ = some (.int .i64 fr) from (H9.k w.heap.size).ce 2 rfl)
  clear H9 hx2
  go_wp2_with fail
  refine mixQ_in ⟨c1, c2, c0⟩ ?_
  iterate 2 (refine mix_head (o := _) (v := ?_) (by (simp only [List.getElem?_toArray, List.getElem?_cons_succ, List.getElem?_cons_zero]); rfl) (by rfl) (fun w' hS => ?_) ?_; rotate_left 1; (focus ((try dsimp only at hS); (try go_split_ands); go_simp; (try with_reducible rfl))); (try simp only [Act.put, List.setIfInBounds_toArray, List.set_cons_zero, List.set_cons_succ]))
  refine mix_end ?_
  (try dsimp only)
  obtain ⟨B, hB⟩ : ∃ B, withM m.rows lv fr = B := ⟨_, rfl⟩
  rw [hB] at hE ⊢
  by_cases z8 : m.words < B
  · rw [if_pos z8] at hE
    go_wp2_with fail
    go_ret
    exact ⟨ret_int (by first | exact hE.symm | rfl), by exact Hd.fin H8⟩
  · rw [if_neg z8] at hE
    go_wp2_with fail
    go_ret
    exact ⟨ret_int (by first | exact hE.symm | rfl), by exact Hd.fin H8⟩
end
end Go.Proofs.YtogcikilphakmaaGreatDoor

/-
  tasks.Table: Add. Every task.
-/
namespace Go.Proofs.YtogcikilphakmaaGreatDoor
open Go.RowKit Spl

def TkM.added (m : TkM) (x : TaskM) : TkM := ⟨m.words, m.units, m.rows ++ [⟨x, (stepsOf x.cd).1⟩], m.names.take (pos m.names x.nm) ++ ⟨x.nm, m.rows.length⟩ :: m.names.drop (pos m.names x.nm)⟩
theorem checkTk_name {m : TkM} {x : TaskM} (h : checkTk m x = 0) : rowAt m.names x.nm = none ∧ (stepsOf x.cd).2 = 0 ∧ m.rows.length < 64 := by
  unfold checkTk at h
  split at h
  · rename_i h1
    split at h
    · split at h
      · cases h
      · rename_i h3
        split at h
        · cases h
        · split at h
          · split at h
            · cases h
            · rename_i h6
              refine ⟨?_, h1, by omega⟩
              cases hr : rowAt m.names x.nm with
              | none => rfl
              | some y => rw [hr] at h3; simp at h3
          · rename_i h5; exact absurd h h5
    · cases h
  · rename_i h1; exact absurd h h1
section
variable {w0 w : World} {R : List Pr} {t : Nat} {m : TkM} {S : Hp}

set_option maxRecDepth 20000 in
set_option maxHeartbeats 4000000 in
theorem tkAdd [Lay w0 R] (H : Hd w0 (TkP t m S :: ro S :: R) w) (hm : m.Ok) (x : TaskM) {nv : Value} (hs : Srd w0 R nv x.needs) (hL : x.needs.length ≤ 100000) (hc : checkTk m x = 0) :
    Calls Tryz.prog 27 #[.pointer (some ⟨t, 0, none⟩), .agg #[.string x.nm, .int .i64 x.lv, .int .i64 x.fr, nv, .string x.cd, .int .i64 x.p, .int .i64 x.f, .int .i64 x.g]] w fun e w' => e = .returned (.tuple #[.int .i64 m.rows.length, .int .i64 0]) ∧ ∃ S', Le S S' ∧ Hd w0 (TkP t (m.added x) S' :: ro S' :: R) w' := by
  obtain ⟨hnm, hst, hlen⟩ := checkTk_name hc
  obtain ⟨a, c, hv⟩ := hs.form
  subst hv
  have H1 : Hd w0 _ (w.alloc (.cells #[.string x.nm, .int .i64 x.lv, .int .i64 x.fr, .slice a x.needs.length c, .string x.cd, .int .i64 x.p, .int .i64 x.f, .int .i64 x.g] 33)) := H.fol
  have h1 := tkCheck (H1.k t) hm x (hs.of fun h => h.tail.tail) (by omega)
  rw [hc] at h1
  have hst2 : ∀ w3, Hd w0 (SlE 127 (.slice none 0 0) ([] : List RowV) :: R) w3 → True := fun _ _ => trivial
  clear hst2
  have hf0 := H1.facts
  simp only [Nat.reduceAdd] at hf0
  go_split_ands
  obtain ⟨n, hn⟩ : ∃ n, m.rows.length = n := ⟨_, rfl⟩
  replace hs := Lib.hid hs
  replace hm := Lib.hid hm
  clear H H1 hc
  go_enter Tryz.func27, Tryz.ntmps27
  go_wp2_with fail
  refine h1.mono ?_
  rintro e w1 ⟨rfl, H2⟩
  clear h1
  obtain ⟨⟨vu, vr, vn, rows⟩, hx, H3⟩ := TkP.opened H2
  dsimp only at hx H3
  have h2 := stkLen_row (o := 2) ((H3.v vr).k t) rfl
  rw [hx.len] at h2
  have hf := H3.facts
  simp only [Nat.reduceAdd] at hf
  go_split_ands
  go_wp2_with fail
  refine h2.mono ?_
  rintro e w2 ⟨rfl, rfl⟩
  clear h2
  have h3 := tkStepsOf (R := cel t 104 #[.int .i64 m.words, vu, vr, vn] :: SlE 3 vu m.units :: SlE 127 vr rows :: SlE 196 vn m.names :: cel w.heap.size 33 #[.string x.nm, .int .i64 x.lv, .int .i64 x.fr, .slice a x.needs.length c, .string x.cd, .int .i64 x.p, .int .i64 x.f, .int .i64 x.g] :: ro S :: R) H3.re x.cd
  rw [hst] at h3
  go_wp2_with fail
  refine h3.mono ?_
  rintro e w3 ⟨sv, rfl, H4⟩
  clear h3 H3 H2
  have c3 := (show _ = some (.slice a x.needs.length c) from (H4.k w.heap.size).ce 3 rfl)
  have h4 := clone_need H4 ((hs.out.of fun h => by exact (Hd.re h : Hd w0 R _)).src) hL
  go_wp2_with fail
  refine h4.mono ?_
  rintro e w4 ⟨nv, rfl, H5⟩
  clear h4 H4 c3
  obtain ⟨na, nc, hnv, -, -, -, -⟩ := H5.slc_form
  obtain ⟨sa, sc, hsv, -, -, -, -⟩ := H5.tail.slc_form
  obtain ⟨L, hLs⟩ : ∃ L, (stepsOf x.cd).1 = L := ⟨_, rfl⟩
  obtain ⟨D, hD⟩ : ∃ D, x.needs = D := ⟨_, rfl⟩
  rw [hLs] at hsv H5
  rw [hD] at hnv H5
  subst hnv
  subst hsv
  have f3 := (H5.k w.heap.size).fr 3
  have d3 := (show _ = some (.slice a D.length c) from (H5.k w.heap.size).ce 3 rfl)
  have H6 : Hd w0 _ (w4.setCell ⟨w.heap.size, 3, none⟩ (.slice na D.length nc)) := H5.fol
  have hf := H6.facts
  simp only [Nat.reduceAdd] at hf
  go_split_ands
  have hpush := stkPush_row (o := 2) (C := #[.int .i64 m.words, vu, vr, vn]) ((H6.drew.v vr).k t) rfl (by rw [hx.len]; omega) ⟨x.nm, x.lv, x.fr, na, D.length, nc, x.cd, x.p, x.f, x.g, sa, L.length, sc⟩
  have y0 := (show _ = some (.string x.nm) from (H6.k w.heap.size).ce 0 rfl)
  have y1 := (show _ = some (.int .i64 x.lv) from (H6.k w.heap.size).ce 1 rfl)
  have y2 := (show _ = some (.int .i64 x.fr) from (H6.k w.heap.size).ce 2 rfl)
  have y3 := (show _ = some (.slice na D.length nc) from (H6.k w.heap.size).ce 3 rfl)
  have y4 := (show _ = some (.string x.cd) from (H6.k w.heap.size).ce 4 rfl)
  have y5 := (show _ = some (.int .i64 x.p) from (H6.k w.heap.size).ce 5 rfl)
  have y6 := (show _ = some (.int .i64 x.f) from (H6.k w.heap.size).ce 6 rfl)
  have y7 := (show _ = some (.int .i64 x.g) from (H6.k w.heap.size).ce 7 rfl)
  clear H5
  go_wp2_with fail
  refine wp_region_mix0 [(0, true), (1, true), (2, true), (3, true), (4, true), (5, true), (6, false)] (fun w' => w'.cell? ⟨w.heap.size, 0, none⟩ = some (.string x.nm) ∧ w'.cell? ⟨w.heap.size, 1, none⟩ = some (.int .i64 x.lv) ∧ w'.cell? ⟨w.heap.size, 2, none⟩ = some (.int .i64 x.fr) ∧ w'.cell? ⟨w.heap.size, 3, none⟩ = some (.slice na D.length nc) ∧ w'.cell? ⟨w.heap.size, 4, none⟩ = some (.string x.cd) ∧ w'.cell? ⟨w.heap.size, 5, none⟩ = some (.int .i64 x.p) ∧ w'.cell? ⟨w.heap.size, 6, none⟩ = some (.int .i64 x.f) ∧ w'.cell? ⟨w.heap.size, 7, none⟩ = some (.int .i64 x.g)) (by kernel_rfl) (by kernel_rfl) (⟨y0, y1, y2, y3, y4, y5, y6, y7⟩) (fun _ _ d _ _ h => by cases d <;> exact h) ?_
  iterate 6 (refine mix_head (o := _) (v := ?_) (by (simp only [List.getElem?_toArray, List.getElem?_cons_succ, List.getElem?_cons_zero]); rfl) (by rfl) (fun w' hS => ?_) ?_; rotate_left 1; (focus ((try dsimp only at hS); (try go_split_ands); go_simp; (try with_reducible rfl))); (try simp only [Act.put, List.setIfInBounds_toArray, List.set_cons_zero, List.set_cons_succ]))
  refine mix_mid (o := _) (by (simp only [List.getElem?_toArray, List.getElem?_cons_succ, List.getElem?_cons_zero]); rfl) ?_
  go_wp2_with fail
  refine hpush.mono ?_
  rintro e w5 ⟨rfl, vr2, H7⟩
  clear hpush H6 y0 y1 y2 y3 y4 y5 y6 y7
  have hS : ({ nm := x.nm, lv := x.lv, fr := x.fr, na := na, nl := D.length, nc := nc, cd := x.cd, p := x.p, f := x.f, g := x.g, sa := sa, sl := L.length, sc := sc } : RowV) = ⟨x.nm, x.lv, x.fr, na, D.length, nc, x.cd, x.p, x.f, x.g, sa, L.length, sc⟩ := rfl
  obtain ⟨RV, hRV⟩ : ∃ RV : RowV, RV = ⟨x.nm, x.lv, x.fr, na, D.length, nc, x.cd, x.p, x.f, x.g, sa, L.length, sc⟩ := ⟨_, rfl⟩
  rw [← hRV] at H7
  replace H7 : Hd w0 (cel t 104 #[.int .i64 m.words, vu, vr2, vn] :: SlE 127 vr2 (rows ++ [RV]) :: SlE 3 vu m.units :: SlE 196 vn m.names :: cel w.heap.size 33 #[.string x.nm, .int .i64 x.lv, .int .i64 x.fr, .slice na D.length nc, .string x.cd, .int .i64 x.p, .int .i64 x.f, .int .i64 x.g] :: SlE 58 (.slice na D.length nc) D :: SlE 39 (.slice sa L.length sc) L :: ro S :: R) w5 := by
    have h : Hd w0 (cel t 104 #[.int .i64 m.words, vu, vr2, vn] :: _) w5 := H7
    exact h.re
  have y0 := (show _ = some (.string x.nm) from (H7.k w.heap.size).ce 0 rfl)
  have y1 := (show _ = some (.int .i64 x.lv) from (H7.k w.heap.size).ce 1 rfl)
  have y2 := (show _ = some (.int .i64 x.fr) from (H7.k w.heap.size).ce 2 rfl)
  have y3 := (show _ = some (.slice na D.length nc) from (H7.k w.heap.size).ce 3 rfl)
  have y4 := (show _ = some (.string x.cd) from (H7.k w.heap.size).ce 4 rfl)
  have y5 := (show _ = some (.int .i64 x.p) from (H7.k w.heap.size).ce 5 rfl)
  have y6 := (show _ = some (.int .i64 x.f) from (H7.k w.heap.size).ce 6 rfl)
  have y7 := (show _ = some (.int .i64 x.g) from (H7.k w.heap.size).ce 7 rfl)
  have hset := setNew_name (o := 3) (x := ⟨x.nm, n⟩) (((H7.drew.v vn).k t) : Hd w0 _ w5.drew) rfl hm.out.nm (by have := hm.out.nn; have := hm.out.n; omega) hnm
  clear hS
  go_wp2_with fail
  refine mixQ_in ⟨y0, y1, y2, y3, y4, y5, y6, y7⟩ ?_
  refine mix_end ?_
  (try dsimp only)
  clear y1 y2 y3 y4 y5 y6 y7
  go_wp2_with fail
  refine wp_region_mix0 [(0, true), (1, true), (2, true), (3, true), (4, true), (5, true), (6, false)] (fun w' => w'.cell? ⟨w.heap.size, 0, none⟩ = some (.string x.nm)) (by kernel_rfl) (by kernel_rfl) (y0) (fun _ _ d _ _ h => by cases d <;> exact h) ?_
  iterate 6 (refine mix_head (o := _) (v := ?_) (by (simp only [List.getElem?_toArray, List.getElem?_cons_succ, List.getElem?_cons_zero]); rfl) (by rfl) (fun w' hS => ?_) ?_; rotate_left 1; (focus ((try dsimp only at hS); (try go_split_ands); go_simp; (try with_reducible rfl))); (try simp only [Act.put, List.setIfInBounds_toArray, List.set_cons_zero, List.set_cons_succ]))
  refine mix_mid (o := _) (by (simp only [List.getElem?_toArray, List.getElem?_cons_succ, List.getElem?_cons_zero]); rfl) ?_
  go_wp2_with fail
  refine hset.mono ?_
  rintro e w6 ⟨rfl, vn2, H8⟩
  clear hset H7 y0
  have y0 := (show _ = some (.string x.nm) from (H8.k w.heap.size).ce 0 rfl)
  go_wp2_with fail
  refine mixQ_in y0 ?_
  refine mix_end ?_
  (try dsimp only)
  go_wp2_with fail
  go_ret2
  refine ⟨ret_ii (by rw [hn]) rfl, ?_⟩
  have H9 : Hd w0 (SlE 58 (.slice na D.length nc) D :: ro S :: cel t 104 #[.int .i64 m.words, vu, vr2, vn2] :: SlE 3 vu m.units :: SlE 127 vr2 (rows ++ [RV]) :: SlE 196 vn2 (m.names.take (pos m.names x.nm) ++ (⟨x.nm, n⟩ : RowN) :: m.names.drop (pos m.names x.nm)) :: SlE 39 (.slice sa L.length sc) L :: R) w6 := by
    have h : Hd w0 (cel t 104 #[.int .i64 m.words, vu, vr2, vn2] :: _) w6 := H8
    exact h.re
  obtain ⟨S1, hS1, hR1, H10⟩ := H9.ro_in
  have H11 : Hd w0 (SlE 39 (.slice sa L.length sc) L :: ro S1 :: cel t 104 #[.int .i64 m.words, vu, vr2, vn2] :: SlE 3 vu m.units :: SlE 127 vr2 (rows ++ [RV]) :: SlE 196 vn2 (m.names.take (pos m.names x.nm) ++ (⟨x.nm, n⟩ : RowN) :: m.names.drop (pos m.names x.nm)) :: R) w6 := by exact H10.re
  obtain ⟨S2, hS2, hR2, H12⟩ := H11.ro_in
  refine ⟨S2, hS1.trans hS2, ?_⟩
  refine TkP.shut (m := m.added x) (x := ⟨vu, vr2, vn2, rows ++ [RV]⟩) ?_ ?_
  · unfold TkM.added
    dsimp only
    rw [hn]
    exact H12.re
  · unfold TkM.added
    dsimp only
    refine (hx.mono (hS1.trans hS2)).snoc ?_
    subst hRV
    refine ⟨rfl, rfl, rfl, rfl, rfl, rfl, rfl, ?_, ?_⟩
    · rw [hD]; exact Ros.mono hR1 hS2
    · rw [hLs]; exact hR2
end
end Go.Proofs.YtogcikilphakmaaGreatDoor

/-
  tasks.New. Every number, every list.
-/
namespace Go.Proofs.YtogcikilphakmaaGreatDoor
open Go.RowKit Spl

def newTk (words : Int) (units : List Int) : Int := if words < 0 ∨ 65536 < words then 1 else if (16 : Int) < units.length then 4 else if units.all (fun x => decide (1 ≤ x) && decide (x ≤ 255)) then 0 else 1
section
variable {w0 w : World} {R : List Pr} {S : Hp}
set_option maxRecDepth 20000 in
set_option maxHeartbeats 1600000 in
theorem tkNew (H : Hd w0 R w) {words : Int} {units : List Int} {v : Value} (hs : Srd w0 R v units) (hc : newTk words units = 0) :
    Calls Tryz.prog 22 #[.int .i64 words, v] w fun e w' => ∃ t, e = .returned (.tuple #[.pointer (some ⟨t, 0, none⟩), .int .i64 0]) ∧ Hd w0 (TkP t ⟨words, units, [], []⟩ S :: R) w' := by
  unfold newTk at hc
  split at hc
  · cases hc
  rename_i h1
  split at hc
  · cases hc
  rename_i h2
  have hall : ∀ x ∈ units, 1 ≤ x ∧ x ≤ 255 := by
    split at hc
    · rename_i h3
      intro x hx
      have := List.all_eq_true.1 h3 x hx
      simpa using this
    · cases hc
  obtain ⟨a, c, hv⟩ := hs.form
  subst hv
  have n1 : ¬ words < 0 := by omega
  have n2 : ¬ 65536 < words := by omega
  have n3 : ¬ (16 : Int) < units.length := by omega
  replace hs := Lib.hid hs
  replace hall := Lib.hid hall
  clear h1 h2 hc
  go_enter Tryz.func22, Tryz.ntmps22
  go_wp2_with fail
  go_loop [21] (fun x => ∃ k : Nat, k ≤ units.length ∧ x = .int .i64 k) (fun x => units.length - (intOf x).toNat)
  case atStart => exact ⟨0, Nat.zero_le _, rfl⟩
  case round =>
    obtain ⟨k, hk, rfl⟩ := hrel
    by_cases hlt : k < units.length
    · obtain ⟨x, hx⟩ : ∃ x, units[k]? = some x := ⟨units[k], List.getElem?_eq_getElem hlt⟩
      have hx2 := hall.out x (List.mem_of_getElem? hx)
      obtain ⟨g, c2, hv2, -, hcell⟩ := hs.out.at hx
      injection hv2 with q1 q2 q3
      subst q1; subst q3
      have f0 := hcell H 0 _ rfl
      simp only [Enc.size, Nat.add_zero, Nat.mul_one] at f0
      have n4 : ¬ (k : Int) < 0 := by omega
      have n5 : (k : Int) < units.length := by omega
      have n6 : ¬ units.length ≤ k := by omega
      have n7 : ¬ x < 1 := by omega
      have n8 : ¬ 255 < x := by omega
      have g5 : IntKind.i64.wrap ((k : Int) + 1) = (k : Int) + 1 := IntWalk.i64_in _ (by omega)
      clear hcell q2 hx hx2
      go_wp2_with fail
      go_round
      case rel => exact ⟨k + 1, by omega, by simp⟩
      case measure => simp [intOf]; omega
    · obtain rfl : k = units.length := by omega
      have hcl := clone_int H hs.out.src (by omega)
      go_wp2_with fail
      refine hcl.mono ?_
      rintro e w1 ⟨v', rfl, H1⟩
      obtain ⟨a', c', rfl, -, -, -, -⟩ := H1.slc_form
      go_wp2_with fail
      go_ret2
      refine ⟨_, rfl, ?_⟩
      have H2 : Hd w0 _ (w1.alloc (.cells #[.int .i64 words, .slice a' units.length c', .slice none 0 0, .slice none 0 0] 104)) := H1.fol
      have e1 := (H2.slc_nil 127 9)
      have e2 := (e1.slc_nil 196 2)
      refine TkP.shut (x := ⟨.slice a' units.length c', .slice none 0 0, .slice none 0 0, []⟩) (m := ⟨words, units, [], []⟩) ?_ ⟨rfl, fun i r v h => by simp at h⟩
      have e3 : Hd w0 (SlE 196 (.slice none 0 0) ([] : List RowN) :: SlE 127 (.slice none 0 0) ([] : List RowV) :: pt w1.heap.size (.cells #[.int .i64 words, .slice a' units.length c', .slice none 0 0, .slice none 0 0] 104) :: SlE 3 (.slice a' units.length c') units :: R) _ := e2
      exact e3.re
end
end Go.Proofs.YtogcikilphakmaaGreatDoor

/-
  units.Table: of. Every table, every job.
-/
namespace Go.Proofs.YtogcikilphakmaaGreatDoor
open Go.RowKit Spl

def heldA (l : List Int) : Array Value := (l.map (Value.int .i64)).toArray
theorem heldA_one (l : List Int) : (heldA l).all (·.oneCell') = true := by
  unfold heldA
  refine all_oneCell_toArray fun v hv => ?_
  simp at hv
  obtain ⟨x, _, rfl⟩ := hv
  rfl
section
variable {w0 w : World} {R : List Pr} {t : Nat} {m : UnM}
set_option maxRecDepth 20000 in
set_option maxHeartbeats 1600000 in
theorem unOf (H : Hd w0 (UnP t m :: R) w) (hm : m.Ok) (job : Int) : Calls Tryz.prog 174 #[.pointer (some ⟨t, 0, none⟩), .int .i64 job] w fun e w' => e = .returned (.agg (heldA (m.heldL job))) ∧ Hd w0 (UnP t m :: R) w' := by
  obtain ⟨⟨vu, vf, vc, vj, bs⟩, hb, H1⟩ := UnP.opened H
  dsimp only at hb H1
  obtain ⟨Z, hZ⟩ : ∃ Z : Array Value, heldA (List.replicate 16 0) = Z := ⟨_, rfl⟩
  have hZc : (Value.agg Z).cells = Z := rfl
  have H2 : Hd w0 _ (w.alloc (.cells Z 238)) := H1.fol
  have hZs := Lib.hid (show Z.size = 16 by rw [← hZ]; simp [heldA])
  cases hr : rowAt m.jobs job with
  | none =>
    have e1 : m.heldL job = List.replicate 16 0 := by unfold UnM.heldL; rw [hr]
    rw [e1, hZ]
    have hg := getNo_hold (o := 3) ((H2.v vj).k t) rfl (rowsOf_sorted hm.s) (by rw [rowsOf_len hb]; have := hm.n; omega) job (rowsOf_none hb hr)
    have hone := Lib.hid (hZ ▸ heldA_one (List.replicate 16 0))
    replace hZ := Lib.hid hZ
    clear H H1 H2 e1 hr hm
    go_enter Tryz.func174, Tryz.ntmps174
    go_wp2_with (first | (refine wpList_alloc_row rfl 238 rfl (.agg Z) (by rw [← hZ.out]; kernel_rfl) ?_))
    refine hg.mono ?_
    rintro e w1 ⟨rfl, H3⟩
    go_wp2_with (first | (refine wpList_build_row rfl 238 _ rfl Z (by rw [← hZ.out]; kernel_rfl) ?_) | (refine wpList_store_all (cells := Z) (H3.k w.heap.size) rfl 238 _ _ rfl rfl rfl (by rw [hZs.out]; kernel_rfl) rfl hone.out ?_; intro w4 H9))
    (try simp only [Exit.inBlock, Exit.then])
    refine bodyPost_ret (results_row rfl _ _ w.heap.size 238 Z (0, 0) _ (by rfl) (by exact ((Hd.fol H9 : Hd w0 _ _).k w.heap.size).heap) Tryz.underlying238 rfl (by rw [hZs.out]; kernel_rfl)) rfl ⟨rfl, ?_⟩
    exact UnP.shut (x := ⟨vu, vf, vc, vj, bs⟩) (by exact Hd.fin H9) hb
  | some j =>
    have e1 : m.heldL job = j.h.held := by unfold UnM.heldL; rw [hr]
    rw [e1]
    obtain ⟨b, hbs, hrow⟩ := rowsOf_row hb hr
    have hjm : j ∈ m.jobs := List.mem_of_getElem? (rowAt_some hm.s hr).1
    have hlen := hm.h j hjm
    have hg := get_hold (o := 3) ((H2.v vj).k t) rfl (rowsOf_sorted hm.s) (by rw [rowsOf_len hb]; have := hm.n; omega) job hrow
    obtain ⟨A, hA⟩ : ∃ A : Array Value, heldA j.h.held = A := ⟨_, rfl⟩
    have hone := Lib.hid (hA ▸ heldA_one j.h.held)
    have hAs := Lib.hid (show A.size = 16 by rw [← hA]; simp [heldA, hlen])
    have hpos := (rowAt_some hm.s hr).1
    rw [hA]
    replace hZ := Lib.hid hZ
    clear H H1 H2 e1 hm hrow
    go_enter Tryz.func174, Tryz.ntmps174
    go_wp2_with (first | (refine wpList_alloc_row rfl 238 rfl (.agg Z) (by rw [← hZ.out]; kernel_rfl) ?_))
    refine hg.mono ?_
    rintro e w1 ⟨rfl, H3⟩
    clear hg
    have H4 : Hd w0 (all (List.zipWith hol bs m.jobs) :: cel w.heap.size 238 Z :: cel t 228 #[vu, vf, vc, vj] :: SlE 3 vu m.units :: SlE 3 vf m.free :: SlE 3 vc m.cells :: SlE 267 vj (rowsOf m.jobs bs) :: R) w1 := by exact H3.re
    obtain ⟨lv, H5⟩ := (H4.row_nth hbs hpos).out
    have H6 := H5.flat
    have hcell : w1.rangeAt b 1 (j.h.held.map (Value.int .i64)) := fun q u hq => by
      have := H6.rd (1 + q)
      rw [this]
      simp only [List.getElem?_toArray]
      rw [show 1 + q = q + 1 by omega, List.getElem?_cons_succ]
      exact hq
    replace hcell := Lib.hid hcell
    have hAl := Lib.hid (show A = (j.h.held.map (Value.int .i64)).toArray from hA.symm)
    replace hA := Lib.hid hA
    clear H5 H6 H4 hpos hbs hjm hr
    go_wp2_with (first | (refine wpList_load_mid rfl 238 _ rfl b 1 rfl (j.h.held.map (Value.int .i64)) _ hcell.out Tryz.underlying238 rfl (by rw [List.length_map, hlen]; kernel_rfl) ?_; rw [← hAl.out]) | (refine wpList_store_all (cells := A) (H3.k w.heap.size) rfl 238 _ _ rfl rfl rfl (by rw [hAs.out]; kernel_rfl) (hZs.out.trans hAs.out.symm) hone.out ?_; intro w4 H9))
    (try simp only [Exit.inBlock, Exit.then])
    refine bodyPost_ret (results_row rfl _ _ w.heap.size 238 A (0, 0) _ (by rfl) (by exact ((Hd.fol H9 : Hd w0 _ _).k w.heap.size).heap) Tryz.underlying238 rfl (by rw [hAs.out]; kernel_rfl)) rfl ⟨rfl, ?_⟩
    exact UnP.shut (x := ⟨vu, vf, vc, vj, bs⟩) (by exact Hd.fin H9) hb
end
end Go.Proofs.YtogcikilphakmaaGreatDoor
