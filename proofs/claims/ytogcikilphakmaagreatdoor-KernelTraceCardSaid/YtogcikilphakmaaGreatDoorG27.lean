/-
  Merged texts of one proof: Tk4.
-/
import Derived.Test.YtogcikilphakmaaGreatDoorG26

/-
  tasks.Table: Steps; Get where there is none; Need. Every table, every number.
-/
namespace Go.Proofs.YtogcikilphakmaaGreatDoor
open Go.RowKit Spl

section
variable {w0 w : World} {R : List Pr} {t : Nat} {m : TkM} {S : Hp}

set_option maxRecDepth 20000 in
set_option maxHeartbeats 4000000 in
theorem tkSteps (H : Hd w0 (TkP t m S :: ro S :: R) w) (hm : m.Ok) {i : Nat} {r : RowM} (hr : m.rows[i]? = some r) :
    Calls Tryz.prog 68 #[.pointer (some ⟨t, 0, none⟩), .int .i64 i] w fun e w' => ∃ v, e = .returned (.tuple #[v, .bool true]) ∧ Hd w0 (SlE 39 v r.steps :: TkP t m S :: ro S :: R) w' := by
  obtain ⟨⟨vu, vr, vn, rows⟩, hx, H1⟩ := TkP.opened H
  dsimp only at hx H1
  obtain ⟨v, hv, hrv⟩ := hx.get hr
  have hnd := (hm.st r (List.mem_of_getElem? hr))
  have hat := stkAt_row (o := 2) ((H1.v vr).k t) rfl (by rw [hx.len]; have := hm.n; omega) i v hv
  have hrn := hrv.steps
  obtain ⟨nm, lv, fr, na, nl, nc, cd, p, f, g, sa, sl, sc⟩ := v
  dsimp only at hat hrn
  have hnn := Lib.hid (fun (w1 : World) (h : Hd w0 (ro S :: R) w1) => h.ro_news hrn)
  have hnl : sl = r.steps.length := (Ros.form hrn)
  obtain ⟨i0, hi, hz0, hz1, hz2⟩ := info_parts cdInfoOp
  obtain ⟨L, hL⟩ : ∃ L, r.steps = L := ⟨_, rfl⟩
  rw [hL] at hnn hnl hnd ⊢
  subst hnl
  have hfl := Lib.hid (flat_len L)
  replace hx := Lib.hid hx
  clear H H1 hm hr hv hrn hL hrv
  go_enter Tryz.func68, Tryz.ntmps68
  go_wp2_with fail
  refine hat.mono ?_
  rintro e w1 ⟨rfl, H3⟩
  clear hat
  have H4 : Hd w0 _ (w1.alloc (.cells #[.string nm, .int .i64 lv, .int .i64 fr, .slice na nl nc, .string cd, .int .i64 p, .int .i64 f, .int .i64 g, .slice sa L.length sc] 127)) := H3.fol
  have c3 := (show _ = some (.slice sa L.length sc) from (H4.k w1.heap.size).ce 8 rfl)
  go_wp2_with fail
  refine wp_region_mix 7 [(0, true), (1, true), (2, true), (4, true), (5, true), (3, false), (6, false)] (fun w' => w'.cell? ⟨w1.heap.size, 8, none⟩ = some (.slice sa L.length sc)) (by kernel_rfl) (by kernel_rfl) (c3) (fun _ _ d _ _ h => by cases d <;> exact h) ?_
  simp only [List.drop_succ_cons, List.drop_zero]
  iterate 5 (refine mix_head (o := _) (v := ?_) (by (simp only [List.getElem?_toArray, List.getElem?_cons_succ, List.getElem?_cons_zero]); rfl) (by rfl) (fun w' hS => ?_) ?_; rotate_left 1; (focus ((try dsimp only at hS); (try go_split_ands); go_simp; (try with_reducible rfl))); (try simp only [Act.put, List.setIfInBounds_toArray, List.set_cons_zero, List.set_cons_succ]))
  refine mix_mid (o := _) (by (simp only [List.getElem?_toArray, List.getElem?_cons_succ, List.getElem?_cons_zero]); rfl) ?_
  go_wp2_with (at_make; (refine wpList_make_slc rfl _ _ 125 rfl 39 i0 _ 4 Tryz.underlying125 hi hz0 hz1 rfl _ _ _ _ 0 L.length rfl rfl rfl rfl (by omega) (by rw [hz2]; omega) (by unfold maxLen; omega) (Hd.drew H4) ?_); intro w2 H5; simp only [madeCells_zero, drew_sz, World.size_alloc] at H5)
  refine mixQ_in ((show _ = some (.slice sa L.length sc) from (H5.k w1.heap.size).ce 8 rfl)) ?_
  refine mix_mid (o := _) (by (simp only [List.getElem?_toArray, List.getElem?_cons_succ, List.getElem?_cons_zero]); rfl) ?_
  have hn1 := Lib.hid (hnn.out _ H5.re)
  go_wp2_with (at_builtin; (refine wpList_append_fits_any_slc rfl _ _ 125 rfl 39 i0 4 Tryz.underlying125 hi hz1 _ 0 L.length [] rfl H5 sa L.length _ (flat L) rfl hfl.out hn1.out.2.1 hn1.out.2.2 (flat_oneCell L) (by omega) ?_); intro w3 H6; rw [Nat.zero_add, List.nil_append] at H6)
  have d3 := (show _ = some (.slice sa L.length sc) from (H6.k w1.heap.size).ce 8 rfl)
  refine mixQ_in d3 ?_
  refine mix_end ?_
  (try dsimp only)
  go_wp2_with fail
  go_ret2
  refine ⟨_, rfl, ?_⟩
  have HA : Hd w0 (SlcC 39 4 (w1.heap.size + 1) L.length L.length (flat L) :: cel t 104 #[.int .i64 m.words, vu, vr, vn] :: SlE 3 vu m.units :: SlE 127 vr rows :: SlE 196 vn m.names :: ro S :: R) w3 := H6.re
  exact (TkP.shut (x := ⟨vu, vr, vn, rows⟩) (HA.slc_mk).d5 hx.out).b2

set_option maxRecDepth 20000 in
set_option maxHeartbeats 4000000 in
theorem tkStepsNo (H : Hd w0 (TkP t m S :: R) w) {i : Int} (hr : i < 0 ∨ m.rows.length ≤ i) :
    Calls Tryz.prog 68 #[.pointer (some ⟨t, 0, none⟩), .int .i64 i] w fun e w' => e = .returned (.tuple #[.slice none 0 0, .bool false]) ∧ Hd w0 (TkP t m S :: R) w' := by
  obtain ⟨⟨vu, vr, vn, rows⟩, hx, H1⟩ := TkP.opened H
  dsimp only at hx H1
  have hat := stkAtNo_row (o := 2) ((H1.v vr).k t) rfl i (by rw [hx.len]; exact hr)
  replace hx := Lib.hid hx
  clear H H1 hr
  go_enter Tryz.func68, Tryz.ntmps68
  go_wp2_with fail
  refine hat.mono ?_
  rintro e w1 ⟨rfl, H3⟩
  clear hat
  have HA : Hd w0 _ (w1.alloc (.cells #[.string ⟨#[]⟩, .int .i64 0, .int .i64 0, .slice none 0 0, .string ⟨#[]⟩, .int .i64 0, .int .i64 0, .int .i64 0, .slice none 0 0] 127)) := H3.fol
  go_wp2_with fail
  go_ret2
  exact ⟨rfl, TkP.shut (x := ⟨vu, vr, vn, rows⟩) (by exact HA.re) hx.out⟩

def needOf (l : List NeedM) (res : Int) : Int := match l.find? (fun x => x.res == res) with
  | some x => x.units
  | none => 0
theorem needOf_nil {res : Int} : needOf [] res = 0 := rfl
theorem needOf_cons {x : NeedM} {l : List NeedM} {res : Int} : needOf (x :: l) res = if x.res = res then x.units else needOf l res := by
  unfold needOf
  rw [List.find?_cons]
  by_cases h : x.res = res
  · have hb : (x.res == res) = true := by simp [h]
    rw [hb, if_pos h]
  · have hb : (x.res == res) = false := by simp [h]
    rw [hb, if_neg h]

set_option maxRecDepth 20000 in
set_option maxHeartbeats 4000000 in
theorem tkNeed (H : Hd w0 (TkP t m S :: ro S :: R) w) (hm : m.Ok) {i : Nat} {r : RowM} (hr : m.rows[i]? = some r) (res : Int) :
    Calls Tryz.prog 157 #[.pointer (some ⟨t, 0, none⟩), .int .i64 i, .int .i64 res] w fun e w' => e = .returned (.int .i64 (needOf r.t.needs res)) ∧ Hd w0 (TkP t m S :: ro S :: R) w' := by
  obtain ⟨⟨vu, vr, vn, rows⟩, hx, H1⟩ := TkP.opened H
  dsimp only at hx H1
  obtain ⟨v, hv, hrv⟩ := hx.get hr
  have hnd := (hm.nd r (List.mem_of_getElem? hr)).1
  have hat := stkAt_row (o := 2) ((H1.v vr).k t) rfl (by rw [hx.len]; have := hm.n; omega) i v hv
  have hrn := hrv.needs
  obtain ⟨nm, lv, fr, na, nl, nc, cd, p, f, g, sa, sl, sc⟩ := v
  dsimp only at hat hrn
  
  have hsrd := Srd.ro (w0 := w0) (R := R) hrn
  have hnl : nl = r.t.needs.length := (Ros.form hrn)
  obtain ⟨L, hL⟩ : ∃ L, r.t.needs = L := ⟨_, rfl⟩
  rw [hL] at hsrd hnl hnd ⊢
  subst hnl
  replace hx := Lib.hid hx
  replace hsrd := Lib.hid hsrd
  clear H H1 hm hr hv hrn hL hrv
  go_enter Tryz.func157, Tryz.ntmps157
  go_wp2_with fail
  refine hat.mono ?_
  rintro e w1 ⟨rfl, H3⟩
  clear hat
  have HA : Hd w0 _ (w1.alloc (.cells #[.string nm, .int .i64 lv, .int .i64 fr, .slice na L.length nc, .string cd, .int .i64 p, .int .i64 f, .int .i64 g, .slice sa sl sc] 127)) := H3.fol
  go_wp2_with fail
  go_loopw [23] (fun x wr => ∃ k : Nat, k ≤ L.length ∧ x = .int .i64 k ∧ needOf L res = needOf (L.drop k) res ∧ Hd w0 (cel t 104 #[.int .i64 m.words, vu, vr, vn] :: SlE 3 vu m.units :: SlE 127 vr rows :: SlE 196 vn m.names :: ro S :: R) wr) (fun x _ => L.length - (intOf x).toNat)
  case atStart => exact ⟨0, Nat.zero_le _, rfl, rfl, by exact HA.re⟩
  case round =>
    clear HA H3
    obtain ⟨k, hk, rfl, hN, H1⟩ := hrel
    by_cases hlt : k < L.length
    · obtain ⟨x, hxk⟩ : ∃ x, L[k]? = some x := ⟨L[k], List.getElem?_eq_getElem hlt⟩
      rw [drop_at hxk, needOf_cons] at hN
      obtain ⟨g2, c2, hv2, -, hcell⟩ := hsrd.out.at hxk
      injection hv2 with q1 q2 q3
      subst q1; subst q3
      have f0 := hcell H1.re 0 _ rfl
      have f1 := hcell H1.re 1 _ rfl
      simp only [Enc.size, Nat.add_zero] at f0 f1
      have n1 : ¬ (k : Int) < 0 := by omega
      have n2 : (k : Int) < L.length := by omega
      have n3 : ¬ L.length ≤ k := by omega
      have g5 : IntKind.i64.wrap ((k : Int) + 1) = (k : Int) + 1 := IntWalk.i64_in _ (by omega)
      obtain ⟨xr, xu⟩ := x
      dsimp only at hN f0 f1
      have HA : Hd w0 _ (wr.alloc (.cells #[.int .i64 xr, .int .i64 xu] 58)) := H1.fol
      clear hcell q2 H1 hxk
      by_cases he : xr = res
      · rw [if_pos he] at hN
        subst he
        replace hN := Lib.hid hN
        go_wp2_with fail
        go_ret
        exact ⟨ret_int hN.out, TkP.shut (x := ⟨vu, vr, vn, rows⟩) (by exact Hd.fin HA) hx.out⟩
      · rw [if_neg he] at hN
        replace hN := Lib.hid hN
        go_wp2_with fail
        go_roundw
        case rel => exact ⟨k + 1, by omega, by simp, hN.out, by exact HA.re⟩
        case measure => simp [intOf]; omega
    · obtain rfl : k = L.length := by omega
      rw [List.drop_length, needOf_nil] at hN
      replace hN := Lib.hid hN
      go_wp2_with fail
      go_ret
      exact ⟨ret_int hN.out, TkP.shut (x := ⟨vu, vr, vn, rows⟩) H1 hx.out⟩
end
end Go.Proofs.YtogcikilphakmaaGreatDoor
