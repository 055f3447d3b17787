/-
  Merged texts of one proof: Tk7, Tk8, Un11, UnI, UnI2, UnI3.
-/
import Derived.Test.YtogcikilphakmaaGreatDoorG08
import Derived.Test.YtogcikilphakmaaGreatDoorG09
import Derived.Test.YtogcikilphakmaaGreatDoorG28
import Derived.Test.YtogcikilphakmaaGreatDoorG34

/-
  tasks.Table: Add. Every task.
-/
namespace Go.Proofs.YtogcikilphakmaaGreatDoor
open Go.RowKit Spl

def TkM.added (m : TkM) (x : TaskM) : TkM := ⟨m.words, m.units, m.rows ++ [⟨x, (stepsOf x.cd).1⟩], m.names.take (pos m.names x.nm) ++ ⟨x.nm, m.rows.length⟩ :: m.names.drop (pos m.names x.nm)⟩
theorem checkTk_name {m : TkM} {x : TaskM} (h : checkTk m x = 0) : rowAt m.names x.nm = none ∧ (stepsOf x.cd).2 = 0 ∧ m.rows.length < 64 := by
  unfold checkTk at h
  split at h
  · rename_i h1
    split at h
    · split at h
      · cases h
      · rename_i h3
        split at h
        · cases h
        · split at h
          · split at h
            · cases h
            · rename_i h6
              refine ⟨?_, h1, by omega⟩
              cases hr : rowAt m.names x.nm with
              | none => rfl
              | some y => rw [hr] at h3; simp at h3
          · rename_i h5; exact absurd h h5
    · cases h
  · rename_i h1; exact absurd h h1
section
variable {w0 w : World} {R : List Pr} {t : Nat} {m : TkM} {S : Hp}

set_option maxRecDepth 20000 in
set_option maxHeartbeats 4000000 in
theorem tkAdd [Lay w0 R] (H : Hd w0 (TkP t m S :: ro S :: R) w) (hm : m.Ok) (x : TaskM) {nv : Value} (hs : Srg w0 R nv x.needs) (hL : x.needs.length ≤ 100000) (hc : checkTk m x = 0) :
    Calls Tryz.prog 27 #[.pointer (some ⟨t, 0, none⟩), .agg #[.string x.nm, .int .i64 x.lv, .int .i64 x.fr, nv, .string x.cd, .int .i64 x.p, .int .i64 x.f, .int .i64 x.g]] w fun e w' => e = .returned (.tuple #[.int .i64 m.rows.length, .int .i64 0]) ∧ ∃ S', Le S S' ∧ Hd w0 (TkP t (m.added x) S' :: ro S' :: R) w' := by
  obtain ⟨hnm, hst, hlen⟩ := checkTk_name hc
  obtain ⟨a, c, hv⟩ := hs.form
  subst hv
  have H1 : Hd w0 _ (w.alloc (.cells #[.string x.nm, .int .i64 x.lv, .int .i64 x.fr, .slice a x.needs.length c, .string x.cd, .int .i64 x.p, .int .i64 x.f, .int .i64 x.g] 33)) := H.fol
  have h1 := tkCheck (H1.k t) hm x (hs.of fun h => h.tail.tail) (by omega)
  rw [hc] at h1
  have hst2 : ∀ w3, Hd w0 (SlE 127 (.slice none 0 0) ([] : List RowV) :: R) w3 → True := fun _ _ => trivial
  clear hst2
  have hf0 := H1.facts
  simp only [Nat.reduceAdd] at hf0
  go_split_ands
  obtain ⟨n, hn⟩ : ∃ n, m.rows.length = n := ⟨_, rfl⟩
  replace hs := Lib.hid hs
  replace hm := Lib.hid hm
  clear H H1 hc
  go_enter Tryz.func27, Tryz.ntmps27
  go_wp2_with fail
  refine h1.mono ?_
  rintro e w1 ⟨rfl, H2⟩
  clear h1
  obtain ⟨⟨vu, vr, vn, rows⟩, hx, H3⟩ := TkP.opened H2
  dsimp only at hx H3
  have h2 := stkLen_row (o := 2) ((H3.v vr).k t) rfl
  rw [hx.len] at h2
  have hf := H3.facts
  simp only [Nat.reduceAdd] at hf
  go_split_ands
  go_wp2_with fail
  refine h2.mono ?_
  rintro e w2 ⟨rfl, rfl⟩
  clear h2
  have h3 := tkStepsOf (R := cel t 104 #[.int .i64 m.words, vu, vr, vn] :: SlE 3 vu m.units :: SlE 127 vr rows :: SlE 196 vn m.names :: cel w.heap.size 33 #[.string x.nm, .int .i64 x.lv, .int .i64 x.fr, .slice a x.needs.length c, .string x.cd, .int .i64 x.p, .int .i64 x.f, .int .i64 x.g] :: ro S :: R) H3.re x.cd
  rw [hst] at h3
  go_wp2_with fail
  refine h3.mono ?_
  rintro e w3 ⟨sv, rfl, H4⟩
  clear h3 H3 H2
  have c3 := (show _ = some (.slice a x.needs.length c) from (H4.k w.heap.size).ce 3 rfl)
  have h4 := clone_need H4 ((hs.out.of fun h => by exact (Hd.re h : Hd w0 R _)).src) hL
  go_wp2_with fail
  refine h4.mono ?_
  rintro e w4 ⟨nv, rfl, H5⟩
  clear h4 H4 c3
  obtain ⟨na, nc, hnv, -, -, -, -⟩ := H5.slc_form
  obtain ⟨sa, sc, hsv, -, -, -, -⟩ := H5.tail.slc_form
  obtain ⟨L, hLs⟩ : ∃ L, (stepsOf x.cd).1 = L := ⟨_, rfl⟩
  obtain ⟨D, hD⟩ : ∃ D, x.needs = D := ⟨_, rfl⟩
  rw [hLs] at hsv H5
  rw [hD] at hnv H5
  subst hnv
  subst hsv
  have f3 := (H5.k w.heap.size).fr 3
  have d3 := (show _ = some (.slice a D.length c) from (H5.k w.heap.size).ce 3 rfl)
  have H6 : Hd w0 _ (w4.setCell ⟨w.heap.size, 3, none⟩ (.slice na D.length nc)) := H5.fol
  have hf := H6.facts
  simp only [Nat.reduceAdd] at hf
  go_split_ands
  have hpush := stkPush_row (o := 2) (C := #[.int .i64 m.words, vu, vr, vn]) ((H6.drew.v vr).k t) rfl (by rw [hx.len]; omega) ⟨x.nm, x.lv, x.fr, na, D.length, nc, x.cd, x.p, x.f, x.g, sa, L.length, sc⟩
  have y0 := (show _ = some (.string x.nm) from (H6.k w.heap.size).ce 0 rfl)
  have y1 := (show _ = some (.int .i64 x.lv) from (H6.k w.heap.size).ce 1 rfl)
  have y2 := (show _ = some (.int .i64 x.fr) from (H6.k w.heap.size).ce 2 rfl)
  have y3 := (show _ = some (.slice na D.length nc) from (H6.k w.heap.size).ce 3 rfl)
  have y4 := (show _ = some (.string x.cd) from (H6.k w.heap.size).ce 4 rfl)
  have y5 := (show _ = some (.int .i64 x.p) from (H6.k w.heap.size).ce 5 rfl)
  have y6 := (show _ = some (.int .i64 x.f) from (H6.k w.heap.size).ce 6 rfl)
  have y7 := (show _ = some (.int .i64 x.g) from (H6.k w.heap.size).ce 7 rfl)
  clear H5
  go_wp2_with fail
  refine wp_region_mix0 [(0, true), (1, true), (2, true), (3, true), (4, true), (5, true), (6, false)] (fun w' => w'.cell? ⟨w.heap.size, 0, none⟩ = some (.string x.nm) ∧ w'.cell? ⟨w.heap.size, 1, none⟩ = some (.int .i64 x.lv) ∧ w'.cell? ⟨w.heap.size, 2, none⟩ = some (.int .i64 x.fr) ∧ w'.cell? ⟨w.heap.size, 3, none⟩ = some (.slice na D.length nc) ∧ w'.cell? ⟨w.heap.size, 4, none⟩ = some (.string x.cd) ∧ w'.cell? ⟨w.heap.size, 5, none⟩ = some (.int .i64 x.p) ∧ w'.cell? ⟨w.heap.size, 6, none⟩ = some (.int .i64 x.f) ∧ w'.cell? ⟨w.heap.size, 7, none⟩ = some (.int .i64 x.g)) (by kernel_rfl) (by kernel_rfl) (⟨y0, y1, y2, y3, y4, y5, y6, y7⟩) (fun _ _ d _ _ h => by cases d <;> exact h) ?_
  iterate 6 (refine mix_head (o := _) (v := ?_) (by (simp only [List.getElem?_toArray, List.getElem?_cons_succ, List.getElem?_cons_zero]); rfl) (by rfl) (fun w' hS => ?_) ?_; rotate_left 1; (focus ((try dsimp only at hS); (try go_split_ands); go_simp; (try with_reducible rfl))); (try simp only [Act.put, List.setIfInBounds_toArray, List.set_cons_zero, List.set_cons_succ]))
  refine mix_mid (o := _) (by (simp only [List.getElem?_toArray, List.getElem?_cons_succ, List.getElem?_cons_zero]); rfl) ?_
  go_wp2_with fail
  refine hpush.mono ?_
  rintro e w5 ⟨rfl, vr2, H7⟩
  clear hpush H6 y0 y1 y2 y3 y4 y5 y6 y7
  have hS : ({ nm := x.nm, lv := x.lv, fr := x.fr, na := na, nl := D.length, nc := nc, cd := x.cd, p := x.p, f := x.f, g := x.g, sa := sa, sl := L.length, sc := sc } : RowV) = ⟨x.nm, x.lv, x.fr, na, D.length, nc, x.cd, x.p, x.f, x.g, sa, L.length, sc⟩ := rfl
  obtain ⟨RV, hRV⟩ : ∃ RV : RowV, RV = ⟨x.nm, x.lv, x.fr, na, D.length, nc, x.cd, x.p, x.f, x.g, sa, L.length, sc⟩ := ⟨_, rfl⟩
  rw [← hRV] at H7
  replace H7 : Hd w0 (cel t 104 #[.int .i64 m.words, vu, vr2, vn] :: SlE 127 vr2 (rows ++ [RV]) :: SlE 3 vu m.units :: SlE 196 vn m.names :: cel w.heap.size 33 #[.string x.nm, .int .i64 x.lv, .int .i64 x.fr, .slice na D.length nc, .string x.cd, .int .i64 x.p, .int .i64 x.f, .int .i64 x.g] :: SlE 58 (.slice na D.length nc) D :: SlE 39 (.slice sa L.length sc) L :: ro S :: R) w5 := by
    have h : Hd w0 (cel t 104 #[.int .i64 m.words, vu, vr2, vn] :: _) w5 := H7
    exact h.re
  have y0 := (show _ = some (.string x.nm) from (H7.k w.heap.size).ce 0 rfl)
  have y1 := (show _ = some (.int .i64 x.lv) from (H7.k w.heap.size).ce 1 rfl)
  have y2 := (show _ = some (.int .i64 x.fr) from (H7.k w.heap.size).ce 2 rfl)
  have y3 := (show _ = some (.slice na D.length nc) from (H7.k w.heap.size).ce 3 rfl)
  have y4 := (show _ = some (.string x.cd) from (H7.k w.heap.size).ce 4 rfl)
  have y5 := (show _ = some (.int .i64 x.p) from (H7.k w.heap.size).ce 5 rfl)
  have y6 := (show _ = some (.int .i64 x.f) from (H7.k w.heap.size).ce 6 rfl)
  have y7 := (show _ = some (.int .i64 x.g) from (H7.k w.heap.size).ce 7 rfl)
  have hset := setNew_name (o := 3) (x := ⟨x.nm, n⟩) (((H7.drew.v vn).k t) : Hd w0 _ w5.drew) rfl hm.out.nm (by have := hm.out.nn; have := hm.out.n; omega) hnm
  clear hS
  go_wp2_with fail
  refine mixQ_in ⟨y0, y1, y2, y3, y4, y5, y6, y7⟩ ?_
  refine mix_end ?_
  (try dsimp only)
  clear y1 y2 y3 y4 y5 y6 y7
  go_wp2_with fail
  refine wp_region_mix0 [(0, true), (1, true), (2, true), (3, true), (4, true), (5, true), (6, false)] (fun w' => w'.cell? ⟨w.heap.size, 0, none⟩ = some (.string x.nm)) (by kernel_rfl) (by kernel_rfl) (y0) (fun _ _ d _ _ h => by cases d <;> exact h) ?_
  iterate 6 (refine mix_head (o := _) (v := ?_) (by (simp only [List.getElem?_toArray, List.getElem?_cons_succ, List.getElem?_cons_zero]); rfl) (by rfl) (fun w' hS => ?_) ?_; rotate_left 1; (focus ((try dsimp only at hS); (try go_split_ands); go_simp; (try with_reducible rfl))); (try simp only [Act.put, List.setIfInBounds_toArray, List.set_cons_zero, List.set_cons_succ]))
  refine mix_mid (o := _) (by (simp only [List.getElem?_toArray, List.getElem?_cons_succ, List.getElem?_cons_zero]); rfl) ?_
  go_wp2_with fail
  refine hset.mono ?_
  rintro e w6 ⟨rfl, vn2, H8⟩
  clear hset H7 y0
  have y0 := (show _ = some (.string x.nm) from (H8.k w.heap.size).ce 0 rfl)
  go_wp2_with fail
  refine mixQ_in y0 ?_
  refine mix_end ?_
  (try dsimp only)
  go_wp2_with fail
  go_ret2
  refine ⟨ret_ii (by rw [hn]) rfl, ?_⟩
  have H9 : Hd w0 (SlE 58 (.slice na D.length nc) D :: ro S :: cel t 104 #[.int .i64 m.words, vu, vr2, vn2] :: SlE 3 vu m.units :: SlE 127 vr2 (rows ++ [RV]) :: SlE 196 vn2 (m.names.take (pos m.names x.nm) ++ (⟨x.nm, n⟩ : RowN) :: m.names.drop (pos m.names x.nm)) :: SlE 39 (.slice sa L.length sc) L :: R) w6 := by
    have h : Hd w0 (cel t 104 #[.int .i64 m.words, vu, vr2, vn2] :: _) w6 := H8
    exact h.re
  obtain ⟨S1, hS1, hR1, H10⟩ := H9.ro_in
  have H11 : Hd w0 (SlE 39 (.slice sa L.length sc) L :: ro S1 :: cel t 104 #[.int .i64 m.words, vu, vr2, vn2] :: SlE 3 vu m.units :: SlE 127 vr2 (rows ++ [RV]) :: SlE 196 vn2 (m.names.take (pos m.names x.nm) ++ (⟨x.nm, n⟩ : RowN) :: m.names.drop (pos m.names x.nm)) :: R) w6 := by exact H10.re
  obtain ⟨S2, hS2, hR2, H12⟩ := H11.ro_in
  refine ⟨S2, hS1.trans hS2, ?_⟩
  refine TkP.shut (m := m.added x) (x := ⟨vu, vr2, vn2, rows ++ [RV]⟩) ?_ ?_
  · unfold TkM.added
    dsimp only
    rw [hn]
    exact H12.re
  · unfold TkM.added
    dsimp only
    refine (hx.mono (hS1.trans hS2)).snoc ?_
    subst hRV
    refine ⟨rfl, rfl, rfl, rfl, rfl, rfl, rfl, ?_, ?_⟩
    · rw [hD]; exact Ros.mono hR1 hS2
    · rw [hLs]; exact hR2
end
end Go.Proofs.YtogcikilphakmaaGreatDoor

/-
  tasks.New. Every number, every list.
-/
namespace Go.Proofs.YtogcikilphakmaaGreatDoor
open Go.RowKit Spl

def newTk (words : Int) (units : List Int) : Int := if words < 0 ∨ 65536 < words then 1 else if (16 : Int) < units.length then 4 else if units.all (fun x => decide (1 ≤ x) && decide (x ≤ 255)) then 0 else 1
section
variable {w0 w : World} {R : List Pr} {S : Hp}
set_option maxRecDepth 20000 in
set_option maxHeartbeats 1600000 in
theorem tkNew (H : Hd w0 R w) {words : Int} {units : List Int} {v : Value} (hs : Srg w0 R v units) (hc : newTk words units = 0) :
    Calls Tryz.prog 22 #[.int .i64 words, v] w fun e w' => ∃ t, e = .returned (.tuple #[.pointer (some ⟨t, 0, none⟩), .int .i64 0]) ∧ Hd w0 (TkP t ⟨words, units, [], []⟩ S :: R) w' := by
  unfold newTk at hc
  split at hc
  · cases hc
  rename_i h1
  split at hc
  · cases hc
  rename_i h2
  have hall : ∀ x ∈ units, 1 ≤ x ∧ x ≤ 255 := by
    split at hc
    · rename_i h3
      intro x hx
      have := List.all_eq_true.1 h3 x hx
      simpa using this
    · cases hc
  obtain ⟨a, c, hv⟩ := hs.form
  subst hv
  have n1 : ¬ words < 0 := by omega
  have n2 : ¬ 65536 < words := by omega
  have n3 : ¬ (16 : Int) < units.length := by omega
  replace hs := Lib.hid hs
  replace hall := Lib.hid hall
  clear h1 h2 hc
  go_enter Tryz.func22, Tryz.ntmps22
  go_wp2_with fail
  go_loop [21] (fun x => ∃ k : Nat, k ≤ units.length ∧ x = .int .i64 k) (fun x => units.length - (intOf x).toNat)
  case atStart => exact ⟨0, Nat.zero_le _, rfl⟩
  case round =>
    obtain ⟨k, hk, rfl⟩ := hrel
    by_cases hlt : k < units.length
    · obtain ⟨x, hx⟩ : ∃ x, units[k]? = some x := ⟨units[k], List.getElem?_eq_getElem hlt⟩
      have hx2 := hall.out x (List.mem_of_getElem? hx)
      obtain ⟨g, go, c2, hv2, -, hcell⟩ := hs.out.at hx
      injection hv2 with q1 q2 q3
      subst q1; subst q3
      have f0 := hcell H 0 _ rfl
      simp only [Enc.size, Nat.add_zero, Nat.mul_one] at f0
      have n4 : ¬ (k : Int) < 0 := by omega
      have n5 : (k : Int) < units.length := by omega
      have n6 : ¬ units.length ≤ k := by omega
      have n7 : ¬ x < 1 := by omega
      have n8 : ¬ 255 < x := by omega
      have g5 : IntKind.i64.wrap ((k : Int) + 1) = (k : Int) + 1 := IntWalk.i64_in _ (by omega)
      clear hcell q2 hx hx2
      go_wp2_with fail
      go_round
      case rel => exact ⟨k + 1, by omega, by simp⟩
      case measure => simp [intOf]; omega
    · obtain rfl : k = units.length := by omega
      have hcl := clone_int H hs.out.src (by omega)
      go_wp2_with fail
      refine hcl.mono ?_
      rintro e w1 ⟨v', rfl, H1⟩
      obtain ⟨a', c', rfl, -, -, -, -⟩ := H1.slc_form
      go_wp2_with fail
      go_ret2
      refine ⟨_, rfl, ?_⟩
      have H2 : Hd w0 _ (w1.alloc (.cells #[.int .i64 words, .slice a' units.length c', .slice none 0 0, .slice none 0 0] 104)) := H1.fol
      have e1 := (H2.slc_nil 127 9)
      have e2 := (e1.slc_nil 196 2)
      refine TkP.shut (x := ⟨.slice a' units.length c', .slice none 0 0, .slice none 0 0, []⟩) (m := ⟨words, units, [], []⟩) ?_ ⟨rfl, fun i r v h => by simp at h⟩
      have e3 : Hd w0 (SlE 196 (.slice none 0 0) ([] : List RowN) :: SlE 127 (.slice none 0 0) ([] : List RowV) :: pt w1.heap.size (.cells #[.int .i64 words, .slice a' units.length c', .slice none 0 0, .slice none 0 0] 104) :: SlE 3 (.slice a' units.length c') units :: R) _ := e2
      exact e3.re
end
end Go.Proofs.YtogcikilphakmaaGreatDoor

/-
  units.New. Every list.
-/
namespace Go.Proofs.YtogcikilphakmaaGreatDoor
open Go.RowKit Spl

def newUn (units : List Int) : Int := if (16 : Int) < units.length then 4 else if units.all (fun x => decide (1 ≤ x) && decide (x ≤ 255)) then 0 else 1
theorem Src.follow {α : Type} [Enc α] {w0 w : World} {X : Pr} {R : List Pr} {v : Value} {l : List α} (_ : Hd w0 (X :: R) w) (h : Hid (Src w0 R v l)) : Hid (Src w0 (X :: R) v l) := Lib.hid (h.out.of (fun H => H.tail))
theorem madeN {w0 w : World} {R : List Pr} (H : Hd w0 R w) (N : Nat) (hN : N ≤ 100000) : Hd w0 (SlE 3 (.slice (some ⟨w.heap.size, 0, none⟩) N N) (zeros N) :: R) (w.alloc (.cells (madeCells #[.int .i64 0] N) 3)) := by
  have h := H.made 3 #[.int .i64 0] 1 N N (Nat.le_refl _) (by unfold maxLen; omega) rfl
  rw [Nat.mul_one] at h
  have e : (madeCells #[Value.int .i64 0] N).toList = flat (zeros N) := by
    have := madeInts N
    rw [Nat.mul_one] at this
    exact this
  rw [e] at h
  have h2 := Hd.slc_mk h
  unfold SlE
  have : (zeros N).length = N := by simp [zeros]
  rw [this]
  exact h2
section
variable {w0 w : World} {R : List Pr}
set_option maxRecDepth 20000 in
set_option maxHeartbeats 1600000 in
theorem unNew (H : Hd w0 R w) {units : List Int} {v : Value} (hs : Srd w0 R v units) (hc : newUn units = 0) :
    Calls Tryz.prog 74 #[v] w fun e w' => ∃ t, e = .returned (.tuple #[.pointer (some ⟨t, 0, none⟩), .int .i64 0]) ∧ Hd w0 (UnP t ⟨units, units, List.replicate units.length 0, []⟩ :: R) w' := by
  unfold newUn at hc
  split at hc
  · cases hc
  rename_i h2
  have hall : ∀ x ∈ units, 1 ≤ x ∧ x ≤ 255 := by
    split at hc
    · rename_i h3
      intro x hx
      have := List.all_eq_true.1 h3 x hx
      simpa using this
    · cases hc
  obtain ⟨a, c, hv⟩ := hs.form
  subst hv
  have n3 : ¬ (16 : Int) < units.length := by omega
  replace hs := Lib.hid hs
  replace hall := Lib.hid hall
  clear h2 hc
  go_enter Tryz.func74, Tryz.ntmps74
  go_wp2_with fail
  go_loop [11] (fun x => ∃ k : Nat, k ≤ units.length ∧ x = .int .i64 k) (fun x => units.length - (intOf x).toNat)
  case atStart => exact ⟨0, Nat.zero_le _, rfl⟩
  case round =>
    obtain ⟨k, hk, rfl⟩ := hrel
    by_cases hlt : k < units.length
    · obtain ⟨x, hx⟩ : ∃ x, units[k]? = some x := ⟨units[k], List.getElem?_eq_getElem hlt⟩
      have hx2 := hall.out x (List.mem_of_getElem? hx)
      obtain ⟨g, c2, hv2, -, hcell⟩ := hs.out.at hx
      injection hv2 with q1 q2 q3
      subst q1; subst q3
      have f0 := hcell H 0 _ rfl
      simp only [Enc.size, Nat.add_zero, Nat.mul_one] at f0
      have n4 : ¬ (k : Int) < 0 := by omega
      have n5 : (k : Int) < units.length := by omega
      have n6 : ¬ units.length ≤ k := by omega
      have n7 : ¬ x < 1 := by omega
      have n8 : ¬ 255 < x := by omega
      have g5 : IntKind.i64.wrap ((k : Int) + 1) = (k : Int) + 1 := IntWalk.i64_in _ (by omega)
      clear hcell q2 hx hx2
      go_wp2_with fail
      go_round
      case rel => exact ⟨k + 1, by omega, by simp⟩
      case measure => simp [intOf]; omega
    · obtain rfl : k = units.length := by omega
      have hsr := Lib.hid hs.out.src
      clear hs hall
      obtain ⟨i0, hi, hz0, hz1, hz2⟩ := info_parts arInfoI
      go_wp2_with fail
      have H := H.drew
      have tok := Lib.hid True.intro
      have hmk : ∀ u : World, (Instr.makeSlice 26 (.int .i64 units.length) (.int .i64 units.length)).run Tryz.prog u = .ok (.slice (some ⟨u.heap.size, 0, none⟩) units.length units.length) (u.alloc (.cells (madeCells #[.int .i64 0] units.length) 3)) := fun u => by
        have h := run_make (P := Tryz.prog) u 26 3 i0 _ Tryz.underlying26 hi hz0 .i64 .i64 units.length units.length (by omega) (by omega) (by rw [hz2]; omega) (by omega)
        rw [hz1] at h
        simp only [Int.toNat_natCast, Nat.mul_one] at h
        exact h
      clear hi hz0 hz1 hz2
      go_region_held3 (fun _ => True) (trivial) (first | (go_at_call 43; clear tok; (first | (refine (clone_int H hsr.out (by omega)).mono ?_) | (have H := madeN H units.length (by omega); have hsr := Src.follow H hsr; refine (clone_int H hsr.out (by omega)).mono ?_)); rintro e w1 ⟨v1, rfl, H1⟩; obtain ⟨av1, cv1, rfl, -, -, -, -⟩ := H1.slc_form; have H := H1; have hsr := Src.follow H hsr) | (go_at_call 43; (first | (refine (clone_int H hsr.out (by omega)).mono ?_) | (have H := madeN H units.length (by omega); have hsr := Src.follow H hsr; refine (clone_int H hsr.out (by omega)).mono ?_)); rintro e w2 ⟨v2, rfl, H2⟩; obtain ⟨av2, cv2, rfl, -, -, -, -⟩ := H2.slc_form; have H := H2; have hsr := Src.follow H hsr))
      · have H := madeN H units.length (by omega)
        go_wp2_with fail
        go_ret2
        refine ⟨_, rfl, ?_⟩
        have HA : Hd w0 _ ((w2.alloc (.cells (madeCells #[.int .i64 0] units.length) 3)).alloc (.cells #[.slice av1 units.length cv1, .slice av2 units.length cv2, .slice (some ⟨w2.heap.size, 0, none⟩) units.length units.length, .slice none 0 0] 228)) := H.fol
        have HB := HA.slc_nil 267 2
        have HC : Hd w0 (SlE 267 (.slice none 0 0) ([] : List RowH) :: pt _ _ :: _) _ := HB
        refine UnP.shut (x := ⟨.slice av1 units.length cv1, .slice av2 units.length cv2, .slice (some ⟨w2.heap.size, 0, none⟩) units.length units.length, .slice none 0 0, []⟩) (m := ⟨units, units, zeros units.length, []⟩) ?_ rfl
        dsimp only
        show Hd w0 (cel _ _ _ :: SlE _ _ units :: SlE _ _ units :: SlE _ _ (zeros units.length) :: SlE _ _ ([] : List RowH) :: all [] :: R) _
        have HD : Hd w0 (all [] :: SlE 267 (.slice none 0 0) ([] : List RowH) :: pt _ _ :: _) _ := Hd.pack (L := []) HC
        exact HD.re
      · go_wp2_with fail
        go_ret2
        refine ⟨_, rfl, ?_⟩
        have HA : Hd w0 _ (w2.alloc (.cells #[.slice av1 units.length cv1, .slice av2 units.length cv2, .slice (some ⟨w1.heap.size, 0, none⟩) units.length units.length, .slice none 0 0] 228)) := H.fol
        have HB := HA.slc_nil 267 2
        have HC : Hd w0 (SlE 267 (.slice none 0 0) ([] : List RowH) :: pt _ _ :: _) _ := HB
        refine UnP.shut (x := ⟨.slice av1 units.length cv1, .slice av2 units.length cv2, .slice (some ⟨w1.heap.size, 0, none⟩) units.length units.length, .slice none 0 0, []⟩) (m := ⟨units, units, zeros units.length, []⟩) ?_ rfl
        dsimp only
        show Hd w0 (cel _ _ _ :: SlE _ _ units :: SlE _ _ units :: SlE _ _ (zeros units.length) :: SlE _ _ ([] : List RowH) :: all [] :: R) _
        have HD : Hd w0 (all [] :: SlE 267 (.slice none 0 0) ([] : List RowH) :: pt _ _ :: _) _ := Hd.pack (L := []) HC
        exact HD.re
      · go_wp2_with fail
        go_ret2
        refine ⟨_, rfl, ?_⟩
        have HA : Hd w0 _ (w2.alloc (.cells #[.slice av1 units.length cv1, .slice av2 units.length cv2, .slice (some ⟨w.heap.size, 0, none⟩) units.length units.length, .slice none 0 0] 228)) := H.fol
        have HB := HA.slc_nil 267 2
        have HC : Hd w0 (SlE 267 (.slice none 0 0) ([] : List RowH) :: pt _ _ :: _) _ := HB
        refine UnP.shut (x := ⟨.slice av1 units.length cv1, .slice av2 units.length cv2, .slice (some ⟨w.heap.size, 0, none⟩) units.length units.length, .slice none 0 0, []⟩) (m := ⟨units, units, zeros units.length, []⟩) ?_ rfl
        dsimp only
        show Hd w0 (cel _ _ _ :: SlE _ _ units :: SlE _ _ units :: SlE _ _ (zeros units.length) :: SlE _ _ ([] : List RowH) :: all [] :: R) _
        have HD : Hd w0 (all [] :: SlE 267 (.slice none 0 0) ([] : List RowH) :: pt _ _ :: SlE _ _ units :: SlE _ _ units :: SlE 3 (.slice (some ⟨w.heap.size, 0, none⟩) units.length units.length) (zeros units.length) :: R) _ := Hd.pack (L := []) HC
        exact HD.re
end
end Go.Proofs.YtogcikilphakmaaGreatDoor

/-
  The plain law of the resource table: what holds of every table that the calls can make.
-/
namespace Go.Proofs.YtogcikilphakmaaGreatDoor
open Go.RowKit Spl

def lkSum (l : List LockM) (r : Nat) : Int := (l.map fun x : LockM => if x.res = (r : Int) then x.units else 0).sum
def heldSum (l : List JobM) (r : Nat) : Int := (l.map fun j => j.h.held[r]?.getD 0).sum
structure UnM.Inv (m : UnM) : Prop where
  u16 : m.units.length ≤ 16
  uv : ∀ x ∈ m.units, 1 ≤ x ∧ x ≤ 255
  cl : m.cells.length = m.units.length
  fl : m.free.length = m.units.length
  s : Sorted m.jobs
  hl : ∀ j ∈ m.jobs, j.h.held.length = 16
  hv : ∀ j ∈ m.jobs, ∀ (r : Nat) (h : Int), j.h.held[r]? = some h → h = lkSum j.h.locks r
  lk : ∀ j ∈ m.jobs, j.h.locks ≠ [] ∧ ∀ x ∈ j.h.locks, 0 ≤ x.res ∧ x.res < m.units.length ∧ 1 ≤ x.units ∧ x.units ≤ 255
  fr : ∀ (r : Nat) (F U : Int), m.free[r]? = some F → m.units[r]? = some U → 0 ≤ F ∧ F + heldSum m.jobs r = U
theorem lkSum_nil (r : Nat) : lkSum [] r = 0 := rfl
theorem lkSum_cons (x : LockM) (l : List LockM) (r : Nat) : lkSum (x :: l) r = (if x.res = r then x.units else 0) + lkSum l r := rfl
theorem lkSum_snoc (x : LockM) (l : List LockM) (r : Nat) : lkSum (l ++ [x]) r = lkSum l r + (if x.res = r then x.units else 0) := by
  induction l with
  | nil => simp [lkSum]
  | cons y l ih => rw [List.cons_append, lkSum_cons, ih, lkSum_cons]; omega
theorem lkSum_nonneg {l : List LockM} (h : ∀ x ∈ l, 1 ≤ x.units) (r : Nat) : 0 ≤ lkSum l r := by
  induction l with
  | nil => exact Int.le_refl _
  | cons y l ih =>
    rw [lkSum_cons]
    have h1 := h y (List.mem_cons_self ..)
    have h2 := ih (fun x hx => h x (List.mem_cons_of_mem _ hx))
    split <;> omega
theorem lkSum_far {l : List LockM} {n r : Nat} (h : ∀ x ∈ l, x.res < (n : Int)) (hr : n ≤ r) : lkSum l r = 0 := by
  induction l with
  | nil => rfl
  | cons y l ih =>
    rw [lkSum_cons, ih (fun x hx => h x (List.mem_cons_of_mem _ hx))]
    have h1 := h y (List.mem_cons_self ..)
    rw [if_neg (by omega)]
    rfl
theorem heldSum_cons (j : JobM) (l : List JobM) (r : Nat) : heldSum (j :: l) r = j.h.held[r]?.getD 0 + heldSum l r := rfl
theorem heldSum_app (l1 l2 : List JobM) (r : Nat) : heldSum (l1 ++ l2) r = heldSum l1 r + heldSum l2 r := by
  induction l1 with
  | nil => simp [heldSum]
  | cons j l ih => rw [List.cons_append, heldSum_cons, ih, heldSum_cons]; omega
theorem heldSum_nonneg {l : List JobM} {r : Nat} (h : ∀ j ∈ l, 0 ≤ j.h.held[r]?.getD 0) : 0 ≤ heldSum l r := by
  induction l with
  | nil => exact Int.le_refl _
  | cons j l ih =>
    rw [heldSum_cons]
    have h1 := h j (List.mem_cons_self ..)
    have h2 := ih (fun x hx => h x (List.mem_cons_of_mem _ hx))
    omega
theorem heldSum_ge {l : List JobM} {r : Nat} (h : ∀ j ∈ l, 0 ≤ j.h.held[r]?.getD 0) : ∀ j ∈ l, j.h.held[r]?.getD 0 ≤ heldSum l r := by
  induction l with
  | nil => intro j hj; cases hj
  | cons k l ih =>
    intro j hj
    rw [heldSum_cons]
    have h1 := h k (List.mem_cons_self ..)
    have h3 := heldSum_nonneg (fun x hx => h x (List.mem_cons_of_mem _ hx))
    rcases List.mem_cons.1 hj with e | hj
    · subst e; omega
    · have := ih (fun x hx => h x (List.mem_cons_of_mem _ hx)) j hj
      omega
theorem heldSum_set {l : List JobM} {i : Nat} {j j' : JobM} (hj : l[i]? = some j) (r : Nat) : heldSum (l.set i j') r = heldSum l r - j.h.held[r]?.getD 0 + j'.h.held[r]?.getD 0 := by
  induction l generalizing i with
  | nil => simp at hj
  | cons k l ih =>
    cases i with
    | zero =>
      simp at hj
      subst hj
      rw [List.set_cons_zero, heldSum_cons, heldSum_cons]
      omega
    | succ i =>
      rw [List.set_cons_succ, heldSum_cons, heldSum_cons, ih (by simpa using hj)]
      omega
theorem heldSum_erase {l : List JobM} {i : Nat} {j : JobM} (hj : l[i]? = some j) (r : Nat) : heldSum (l.eraseIdx i) r = heldSum l r - j.h.held[r]?.getD 0 := by
  induction l generalizing i with
  | nil => simp at hj
  | cons k l ih =>
    cases i with
    | zero =>
      simp at hj
      subst hj
      rw [List.eraseIdx_cons_zero, heldSum_cons]
      omega
    | succ i =>
      rw [List.eraseIdx_cons_succ, heldSum_cons, heldSum_cons, ih (by simpa using hj)]
      omega
theorem heldSum_ins (l : List JobM) (i : Nat) (j : JobM) (r : Nat) : heldSum (l.take i ++ j :: l.drop i) r = heldSum l r + j.h.held[r]?.getD 0 := by
  rw [heldSum_app, heldSum_cons]
  have h : heldSum (l.take i ++ l.drop i) r = heldSum l r := by rw [List.take_append_drop]
  rw [heldSum_app] at h
  omega
theorem UnM.Inv.pos {m : UnM} (h : m.Inv) : ∀ j ∈ m.jobs, ∀ r : Nat, 0 ≤ j.h.held[r]?.getD 0 := by
  intro j hj r
  cases hr : j.h.held[r]? with
  | none => exact Int.le_refl _
  | some x =>
    rw [Option.getD_some, h.hv j hj r x hr]
    exact lkSum_nonneg (fun x hx => ((h.lk j hj).2 x hx).2.2.1) r
theorem UnM.Inv.held {m : UnM} (h : m.Inv) : ∀ j ∈ m.jobs, ∀ x ∈ j.h.held, 0 ≤ x ∧ x ≤ 255 := by
  intro j hj x hx
  obtain ⟨r, hr⟩ := List.getElem?_of_mem hx
  have h0 := h.pos j hj r
  rw [hr, Option.getD_some] at h0
  refine ⟨h0, ?_⟩
  by_cases hlt : r < m.units.length
  · have hU : m.units[r]? = some m.units[r] := List.getElem?_eq_getElem hlt
    have hF : m.free[r]? = some (m.free[r]'(by rw [h.fl]; exact hlt)) := List.getElem?_eq_getElem _
    have h1 := h.fr r _ _ hF hU
    have h2 := heldSum_ge (fun j hj => h.pos j hj r) j hj
    rw [hr, Option.getD_some] at h2
    have h3 := h.uv _ (List.getElem_mem hlt)
    omega
  · have h1 := h.hv j hj r x hr
    rw [lkSum_far (n := m.units.length) (fun x hx => ((h.lk j hj).2 x hx).2.1) (by omega)] at h1
    omega
theorem UnM.Inv.free {m : UnM} (h : m.Inv) : ∀ x ∈ m.free, 0 ≤ x ∧ x ≤ 255 := by
  intro x hx
  obtain ⟨r, hr⟩ := List.getElem?_of_mem hx
  have hlt := lt_of_get? hr
  rw [h.fl] at hlt
  have hU : m.units[r]? = some m.units[r] := List.getElem?_eq_getElem hlt
  have h1 := h.fr r _ _ hr hU
  have h2 := heldSum_nonneg (fun j hj => h.pos j hj r)
  have h3 := h.uv _ (List.getElem_mem hlt)
  omega
theorem UnM.Inv.ok3 {m : UnM} (h : m.Inv) : m.Ok3 := ⟨h.lk⟩
end Go.Proofs.YtogcikilphakmaaGreatDoor

/-
  The plain law of the resource table: Lock, pop and Store keep it.
-/
namespace Go.Proofs.YtogcikilphakmaaGreatDoor
open Go.RowKit Spl

theorem pos_cons {α K : Type} [KLt K] [Keyed α K] (y : α) (l : List α) (k : K) : pos (y :: l) k = if KLt.lt (Keyed.key y : K) k = true then pos l k + 1 else 0 := by
  unfold pos
  rw [List.takeWhile_cons]
  split <;> simp [*]
theorem sorted_ins {α K : Type} [KLt K] [Keyed α K] {l : List α} {k : K} {x : α} (hs : Sorted l) (hk : (Keyed.key x : K) = k) (hn : rowAt l k = none) : Sorted (l.take (pos l k) ++ x :: l.drop (pos l k)) := by
  induction l with
  | nil => exact List.pairwise_singleton ..
  | cons y l ih =>
    have h2 := List.pairwise_cons.1 hs
    by_cases hlt : KLt.lt (Keyed.key y : K) k = true
    · have hp : pos (y :: l) k = pos l k + 1 := by rw [pos_cons, if_pos hlt]
      have hn2 : rowAt l k = none := by
        unfold rowAt at hn ⊢
        rw [hp, List.getElem?_cons_succ] at hn
        exact hn
      rw [hp, List.take_succ_cons, List.drop_succ_cons, List.cons_append]
      refine List.pairwise_cons.2 ⟨?_, ih h2.2 hn2⟩
      intro z hz
      rcases List.mem_append.1 hz with h | h
      · exact h2.1 z (List.mem_of_mem_take h)
      · rcases List.mem_cons.1 h with e | h
        · subst e; rw [hk]; exact hlt
        · exact h2.1 z (List.mem_of_mem_drop h)
    · have hp : pos (y :: l) k = 0 := by rw [pos_cons, if_neg hlt]
      have hky : KLt.lt k (Keyed.key y : K) = true := by
        unfold rowAt at hn
        rw [hp, List.getElem?_cons_zero] at hn
        dsimp only at hn
        split at hn
        · assumption
        · cases hn
      rw [hp, List.take_zero, List.drop_zero, List.nil_append]
      refine List.pairwise_cons.2 ⟨?_, hs⟩
      intro z hz
      rw [hk]
      rcases List.mem_cons.1 hz with e | h
      · subst e; exact hky
      · exact KLt.tr hky (h2.1 z h)
theorem mem_ins {α : Type} {l : List α} {i : Nat} {x y : α} (h : y ∈ l.take i ++ x :: l.drop i) : y = x ∨ y ∈ l := by
  rcases List.mem_append.1 h with h | h
  · exact .inr (List.mem_of_mem_take h)
  · rcases List.mem_cons.1 h with e | h
    · exact .inl e
    · exact .inr (List.mem_of_mem_drop h)
theorem lockE_zero {m : UnM} {job n need : Int} {r : Nat} (hE : m.lockE job r n need = 0) : 0 ≤ job ∧ r < m.units.length ∧ 1 ≤ n ∧ n ≤ m.units[r]?.getD 0 ∧ n ≤ m.free[r]?.getD 0 := by
  unfold UnM.lockE at hE
  rw [Int.toNat_natCast] at hE
  by_cases a1 : job < 0 ∨ (r : Int) < 0 ∨ (m.units.length : Int) ≤ r ∨ n < 1 ∨ m.units[r]?.getD 0 < n
  · rw [if_pos a1] at hE; cases hE
  rw [if_neg a1] at hE
  split at hE
  · cases hE
  split at hE
  · cases hE
  omega
theorem UnM.Inv.locked {m : UnM} (h : m.Inv) {job n need : Int} {r : Nat} (hE : m.lockE job r n need = 0) : (m.locked job r n).Inv := by
  obtain ⟨z1, z2, z3, z4, z5⟩ := lockE_zero hE
  have hU : m.units[r]? = some m.units[r] := List.getElem?_eq_getElem z2
  have hF : m.free[r]? = some (m.free[r]'(by rw [h.fl]; exact z2)) := List.getElem?_eq_getElem _
  obtain ⟨F, hF0⟩ : ∃ F, m.free[r]? = some F := ⟨_, hF⟩
  obtain ⟨U, hU0⟩ : ∃ U, m.units[r]? = some U := ⟨_, hU⟩
  have hUb := h.uv U (List.mem_of_getElem? hU0)
  rw [hF0, Option.getD_some] at z5
  rw [hU0, Option.getD_some] at z4
  have hu16 := h.u16
  unfold UnM.locked
  rw [hF0, Option.getD_some]
  cases hrow : rowAt m.jobs job with
  | some j =>
    dsimp only
    obtain ⟨hpos, hkey⟩ := rowAt_some h.s hrow
    have hmem := List.mem_of_getElem? hpos
    have hl16 := h.hl j hmem
    obtain ⟨hd, hhd⟩ : ∃ hd, j.h.held[r]? = some hd := ⟨j.h.held[r]'(by omega), List.getElem?_eq_getElem _⟩
    rw [hhd, Option.getD_some]
    have hdv := h.hv j hmem r hd hhd
    have hks := set_keys (K := Int) (y := (⟨j.job, ⟨j.h.locks ++ [⟨(r : Int), n⟩], j.h.held.set r (hd + n)⟩⟩ : JobM)) hpos rfl
    refine ⟨h.u16, h.uv, h.cl, by rw [List.length_set]; exact h.fl, keys_sorted hks.symm h.s, ?_, ?_, ?_, ?_⟩
    · intro j' hj'
      rcases List.mem_or_eq_of_mem_set hj' with q | q
      · exact h.hl j' q
      · rw [q]; dsimp only; rw [List.length_set]; exact hl16
    · intro j' hj' k x hx
      rcases List.mem_or_eq_of_mem_set hj' with q | q
      · exact h.hv j' q k x hx
      · rw [q] at hx ⊢
        dsimp only at hx ⊢
        rw [lkSum_snoc]
        by_cases hk : r = k
        · subst hk
          rw [List.getElem?_set_self (lt_of_get? hhd)] at hx
          injection hx with hx
          dsimp only
          rw [if_pos rfl]
          omega
        · rw [List.getElem?_set_ne hk] at hx
          have := h.hv j hmem k x hx
          dsimp only
          rw [if_neg (by omega)]
          omega
    · intro j' hj'
      rcases List.mem_or_eq_of_mem_set hj' with q | q
      · exact h.lk j' q
      · rw [q]
        refine ⟨by simp, ?_⟩
        intro x hx
        rcases List.mem_append.1 hx with hx | hx
        · exact (h.lk j hmem).2 x hx
        · rw [List.mem_singleton.1 hx]
          dsimp only
          omega
    · intro k F' U' hF' hU'
      dsimp only at hF' hU' ⊢
      rw [heldSum_set hpos]
      dsimp only
      by_cases hk : r = k
      · subst hk
        rw [List.getElem?_set_self (lt_of_get? hF0)] at hF'
        injection hF' with hF'
        have h1 := h.fr r F U' hF0 hU'
        rw [List.getElem?_set_self (lt_of_get? hhd), hhd, Option.getD_some, Option.getD_some]
        omega
      · rw [List.getElem?_set_ne hk] at hF'
        have h1 := h.fr k F' U' hF' hU'
        rw [List.getElem?_set_ne hk]
        omega
  | none =>
    dsimp only
    rw [Int.zero_add]
    have h16 : (List.replicate 16 (0 : Int)).length = 16 := by simp
    refine ⟨h.u16, h.uv, h.cl, by rw [List.length_set]; exact h.fl, sorted_ins h.s rfl hrow, ?_, ?_, ?_, ?_⟩
    · intro j' hj'
      rcases mem_ins hj' with q | q
      · rw [q]; dsimp only; rw [List.length_set]; exact h16
      · exact h.hl j' q
    · intro j' hj' k x hx
      rcases mem_ins hj' with q | q
      · rw [q] at hx ⊢
        dsimp only at hx ⊢
        rw [lkSum_cons, lkSum_nil]
        dsimp only
        by_cases hk : r = k
        · subst hk
          rw [List.getElem?_set_self (by omega)] at hx
          injection hx with hx
          rw [if_pos rfl]
          omega
        · rw [List.getElem?_set_ne hk, List.getElem?_replicate] at hx
          rw [if_neg (by omega)]
          split at hx
          · injection hx with hx; omega
          · cases hx
      · exact h.hv j' q k x hx
    · intro j' hj'
      rcases mem_ins hj' with q | q
      · rw [q]
        refine ⟨by simp, ?_⟩
        intro x hx
        rw [List.mem_singleton.1 hx]
        dsimp only
        omega
      · exact h.lk j' q
    · intro k F' U' hF' hU'
      dsimp only at hF' hU' ⊢
      rw [heldSum_ins]
      dsimp only
      by_cases hk : r = k
      · subst hk
        rw [List.getElem?_set_self (lt_of_get? hF0)] at hF'
        injection hF' with hF'
        have h1 := h.fr r F U' hF0 hU'
        rw [List.getElem?_set_self (by omega), Option.getD_some]
        omega
      · rw [List.getElem?_set_ne hk] at hF'
        have h1 := h.fr k F' U' hF' hU'
        rw [List.getElem?_set_ne hk, List.getElem?_replicate]
        split <;> simp <;> omega
theorem UnM.Inv.stored {m : UnM} (h : m.Inv) (r : Nat) (v : Int) : (m.stored r v).Inv := ⟨h.u16, h.uv, by unfold UnM.stored; rw [List.length_set]; exact h.cl, h.fl, h.s, h.hl, h.hv, h.lk, h.fr⟩
end Go.Proofs.YtogcikilphakmaaGreatDoor

/-
  The plain law of the resource table: pop keeps it; a new table meets it.
-/
namespace Go.Proofs.YtogcikilphakmaaGreatDoor
open Go.RowKit Spl

theorem mem_erase {α : Type} {l : List α} {i : Nat} {x : α} (h : x ∈ l.eraseIdx i) : x ∈ l := (List.eraseIdx_sublist l i).mem h
theorem UnM.Inv.popped {m : UnM} (h : m.Inv) (job : Int) : (m.popped job).Inv := by
  unfold UnM.popped
  cases hrow : rowAt m.jobs job with
  | none => exact h
  | some j =>
    dsimp only
    obtain ⟨hpos, hkey⟩ := rowAt_some h.s hrow
    have hmem := List.mem_of_getElem? hpos
    have hl16 := h.hl j hmem
    obtain ⟨hne, hlk⟩ := h.lk j hmem
    obtain ⟨l, x, hl⟩ : ∃ l x, j.h.locks = l ++ [x] := ⟨_, _, (List.dropLast_concat_getLast hne).symm⟩
    have h1 : j.h.locks.getLast? = some x := by rw [hl]; simp
    have h2 : j.h.locks.length = l.length + 1 := by rw [hl]; simp
    have h3 : j.h.locks.dropLast = l := by rw [hl]; simp
    rw [h1]
    dsimp only
    rw [h2, h3]
    obtain ⟨x1, x2, x3, x4⟩ := hlk x (by rw [hl]; simp)
    have hu16 := h.u16
    obtain ⟨r, hr⟩ : ∃ r : Nat, x.res = r := ⟨x.res.toNat, by omega⟩
    rw [hr, Int.toNat_natCast]
    have hrl : r < m.units.length := by omega
    obtain ⟨F, hF0⟩ : ∃ F, m.free[r]? = some F := ⟨m.free[r]'(by rw [h.fl]; exact hrl), List.getElem?_eq_getElem _⟩
    obtain ⟨U, hU0⟩ : ∃ U, m.units[r]? = some U := ⟨m.units[r], List.getElem?_eq_getElem hrl⟩
    obtain ⟨hd, hhd⟩ : ∃ hd, j.h.held[r]? = some hd := ⟨j.h.held[r]'(by omega), List.getElem?_eq_getElem _⟩
    rw [hF0, hhd, Option.getD_some, Option.getD_some]
    have hlkl : ∀ y ∈ l, 0 ≤ y.res ∧ y.res < m.units.length ∧ 1 ≤ y.units ∧ y.units ≤ 255 := fun y hy => hlk y (by rw [hl]; exact List.mem_append_left _ hy)
    have hsum : ∀ (k : Nat) (v : Int), j.h.held[k]? = some v → v = lkSum l k + (if r = k then x.units else 0) := by
      intro k v hv
      have := h.hv j hmem k v hv
      rw [hl, lkSum_snoc] at this
      rw [this]
      by_cases hk : r = k
      · rw [if_pos hk, if_pos (by omega)]
      · rw [if_neg hk, if_neg (by omega)]
    have hFr := h.fr r F U hF0 hU0
    have hfar : ∀ (k : Nat), r ≠ k → (m.free.set r (F + x.units))[k]? = m.free[k]? := fun k hk => List.getElem?_set_ne hk
    by_cases hz : l.length = 0
    · rw [if_pos (by omega)]
      have hl0 : l = [] := List.eq_nil_of_length_eq_zero hz
      refine ⟨h.u16, h.uv, h.cl, by rw [List.length_set]; exact h.fl, h.s.sublist (List.eraseIdx_sublist _ _), ?_, ?_, ?_, ?_⟩
      · exact fun j' hj' => h.hl j' (mem_erase hj')
      · exact fun j' hj' => h.hv j' (mem_erase hj')
      · exact fun j' hj' => h.lk j' (mem_erase hj')
      · intro k F' U' hF' hU'
        dsimp only at hF' hU' ⊢
        rw [heldSum_erase hpos]
        by_cases hk : r = k
        · subst hk
          rw [List.getElem?_set_self (lt_of_get? hF0)] at hF'
          injection hF' with hF'
          rw [hU0] at hU'
          injection hU' with hU'
          have h4 := hsum r hd hhd
          rw [if_pos rfl, hl0, lkSum_nil] at h4
          rw [hhd, Option.getD_some]
          omega
        · rw [hfar k hk] at hF'
          have h4 := h.fr k F' U' hF' hU'
          cases hkd : j.h.held[k]? with
          | none => simp; omega
          | some v =>
            have h5 := hsum k v hkd
            rw [if_neg hk, hl0, lkSum_nil] at h5
            rw [Option.getD_some]
            omega
    · rw [if_neg (by omega)]
      have hks := set_keys (K := Int) (y := (⟨j.job, ⟨l, j.h.held.set r (hd - x.units)⟩⟩ : JobM)) hpos rfl
      refine ⟨h.u16, h.uv, h.cl, by rw [List.length_set]; exact h.fl, keys_sorted hks.symm h.s, ?_, ?_, ?_, ?_⟩
      · intro j' hj'
        rcases List.mem_or_eq_of_mem_set hj' with q | q
        · exact h.hl j' q
        · rw [q]; dsimp only; rw [List.length_set]; exact hl16
      · intro j' hj' k v hv
        rcases List.mem_or_eq_of_mem_set hj' with q | q
        · exact h.hv j' q k v hv
        · rw [q] at hv ⊢
          dsimp only at hv ⊢
          by_cases hk : r = k
          · subst hk
            rw [List.getElem?_set_self (lt_of_get? hhd)] at hv
            injection hv with hv
            have h4 := hsum r hd hhd
            rw [if_pos rfl] at h4
            omega
          · rw [List.getElem?_set_ne hk] at hv
            have h4 := hsum k v hv
            rw [if_neg hk] at h4
            omega
      · intro j' hj'
        rcases List.mem_or_eq_of_mem_set hj' with q | q
        · exact h.lk j' q
        · rw [q]
          exact ⟨fun e => hz (by rw [show l = [] from e]; rfl), hlkl⟩
      · intro k F' U' hF' hU'
        dsimp only at hF' hU' ⊢
        rw [heldSum_set hpos]
        dsimp only
        by_cases hk : r = k
        · subst hk
          rw [List.getElem?_set_self (lt_of_get? hF0)] at hF'
          injection hF' with hF'
          rw [hU0] at hU'
          injection hU' with hU'
          rw [List.getElem?_set_self (lt_of_get? hhd), hhd, Option.getD_some, Option.getD_some]
          omega
        · rw [hfar k hk] at hF'
          have h4 := h.fr k F' U' hF' hU'
          rw [List.getElem?_set_ne hk]
          omega
theorem UnM.Inv.popN {m : UnM} (h : m.Inv) (job : Int) : ∀ k, (m.popN job k).Inv
  | 0 => h
  | k + 1 => (UnM.Inv.popN h job k).popped job
theorem UnM.Inv.new {units : List Int} (hc : newUn units = 0) : (UnM.mk units units (List.replicate units.length 0) []).Inv := by
  unfold newUn at hc
  split at hc
  · cases hc
  rename_i h2
  split at hc
  · rename_i h3
    have hall : ∀ x ∈ units, 1 ≤ x ∧ x ≤ 255 := by
      intro x hx
      have := List.all_eq_true.1 h3 x hx
      simpa using this
    refine ⟨by dsimp only; omega, hall, by simp, rfl, List.Pairwise.nil, fun j hj => (by cases hj), fun j hj => (by cases hj), fun j hj => (by cases hj), ?_⟩
    intro r F U hF hU
    dsimp only at hF hU ⊢
    rw [hF] at hU
    injection hU with hU
    have := hall F (List.mem_of_getElem? hF)
    have e : heldSum [] r = 0 := rfl
    rw [e]
    omega
  · cases hc
end Go.Proofs.YtogcikilphakmaaGreatDoor
