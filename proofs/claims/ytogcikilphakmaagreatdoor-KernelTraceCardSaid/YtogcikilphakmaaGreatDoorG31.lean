/-
  Merged texts of one proof: Code14, Code15, TkM.
-/
import Derived.Test.YtogcikilphakmaaGreatDoorG05
import Derived.Test.YtogcikilphakmaaGreatDoorG16
import Derived.Test.YtogcikilphakmaaGreatDoorG22
import Derived.Test.YtogcikilphakmaaGreatDoorG29

/-
  Package code: walk, Count, Steps. Every program.
-/
namespace Go.Proofs.YtogcikilphakmaaGreatDoor
open Go.RowKit Spl

theorem flat_zeros (n : Nat) : flat (zerosI n) = List.replicate n (.int .i64 0) := by
  induction n with
  | zero => rfl
  | succ n ih => unfold zerosI at *; rw [List.replicate_succ, flat_cons, ih]; rfl
theorem madeZeros (n : Nat) : (madeCells #[.int .i64 0] (n * 1)).toList = flat (zerosI n) := by
  rw [flat_zeros, Nat.mul_one]
  apply List.ext_getElem?
  intro i
  by_cases h : i < n <;> simp [madeCells, h, Nat.mod_one]
section
variable {w0 w : World} {R : List Pr} {t : TellM} {pv : Value}

set_option maxRecDepth 20000 in
set_option maxHeartbeats 4000000 in
theorem cdWalk {p : List OpM} (H : Hd w0 (TellP t [] :: R) w) (hp : Srd w0 R pv p) :
    Calls Tryz.prog 118 #[pv, t.v] w fun e w' => e = .returned (.tuple #[.int .i64 (if (checkM p).2 = 0 then (if (walkM p).over then 0 else (walkM p).out.length) else 0), .int .i64 (if (checkM p).2 = 0 then (if (walkM p).over then 5 else 0) else (checkM p).2)]) ∧
      Hd w0 (TellP t (if (checkM p).2 = 0 then (walkM p).out else []) :: R) w' := by
  obtain ⟨a, c, hv⟩ := hp.form
  have hp2 : Srd w0 (TellP t [] :: R) pv p := hp.of fun h => h.tail
  have hcheck := cdCheck H hp2
  by_cases hc : (checkM p).2 = 0
  · rw [if_pos hc, if_pos hc, if_pos hc]
    rw [hc] at hcheck
    have hlen := checkM_len hc
    obtain ⟨i0, hi, hz0, hz1, hz2⟩ := info_parts cdInfoInt
    replace hp := Lib.hid hp
    subst hv
    clear hp2
    have hcm := Lib.hid (show checkGo (p.drop 0) 0 0 = checkM p by unfold checkM; rw [if_neg (by omega)]; rfl)
    obtain ⟨tv, htv⟩ : ∃ tv, t.v = tv := ⟨_, rfl⟩
    have hT : tv = .nilFunc ∨ ∃ tb, tv = .func (.func 119) #[] #[.pointer (some ⟨tb, 0, none⟩)] := by
      rw [← htv]
      cases t with
      | nobody => exact .inl rfl
      | box tb => exact .inr ⟨tb, rfl⟩
    rw [htv]
    obtain ⟨WM, hWM⟩ : ∃ WM, walkM p = WM := ⟨_, rfl⟩
    rw [hWM]
    replace hWM := Lib.hid hWM
    rcases hT with rfl | ⟨tb, rfl⟩
    · go_enter Tryz.func118, Tryz.ntmps118
      go_wp2_with fail
      refine hcheck.mono ?_
      rintro e w1 ⟨rfl, H1⟩
      clear hcheck H
      go_wp2_with (at_make; (refine wpList_make_slc rfl _ _ 26 rfl 3 i0 _ 1 Tryz.underlying26 hi hz0 hz1 rfl _ _ _ _ p.length p.length rfl rfl rfl rfl (by omega) (by rw [hz2]; omega) (by unfold maxLen; omega) H1 ?_); intro w2 H2; replace H2 := (show Hd w0 (SlcC 3 (Enc.size Int) w1.heap.size p.length p.length (flat (zerosI p.length)) :: TellP t [] :: R) w2 by rw [← madeZeros]; exact H2))
      have HS : Hd w0 _ (w2.alloc (.cells #[.slice a p.length c, .int .i64 0, .bool false, .slice (some ⟨w1.heap.size, 0, none⟩) p.length p.length, .nilFunc] 279)) := (show Hd w0 (SlE 3 (.slice none 0 0) ([] : List Int) :: SlcC 3 (Enc.size Int) w1.heap.size p.length p.length (flat (zerosI p.length)) :: TellP t [] :: R) w2 from H2.slc_nil _ _).fol
      go_loopw [29, 9] (fun x ov wr => ∃ (k n : Nat) (e o : List Int) (vv : Value), k ≤ p.length ∧ x = .int .i64 k ∧ vv = ov ∧ EInv p k e o ∧ o.length = n ∧ n ≤ 4 ∧ checkGo (p.drop k) k n = checkM p ∧ endsGo (p.drop k) k e o = endsGo p 0 (zerosI p.length) [] ∧
        Hd w0 (SlE 3 vv o :: cel w2.heap.size 279 #[.slice a p.length c, .int .i64 0, .bool false, .slice (some ⟨w1.heap.size, 0, none⟩) p.length p.length, .nilFunc] :: SlEC 3 w1.heap.size p.length e :: TellP t [] :: R) wr) (fun x _ _ => p.length - (intOf x).toNat)
      case atStart => exact ⟨0, 0, zerosI p.length, [], _, Nat.zero_le _, rfl, rfl, EInv.start p, rfl, by omega, hcm.out, rfl, by
        have e1 : (zerosI p.length).length = p.length := by simp [zerosI]
        unfold SlE SlEC
        rw [e1]
        exact HS.re⟩
      case round =>
        clear HS H1 H2
        obtain ⟨k, n, e, o, vv, hk, rfl, rfl, hI, hon, hn4b, hC, hE, H3⟩ := hrel
        by_cases hlt : k < p.length
        · obtain ⟨x, hx⟩ : ∃ x, p[k]? = some x := ⟨p[k], List.getElem?_eq_getElem hlt⟩
          obtain ⟨g, c2, hv2, -, hcell⟩ := hp.out.at hx
          injection hv2 with hv3 hv4 hv5
          subst hv3; subst hv5
          have HR : Hd w0 R wr := H3.re
          have f0 := hcell HR 0 _ rfl
          have f1 := hcell HR 1 _ rfl
          have f2 := hcell HR 2 _ rfl
          have f3 := hcell HR 3 _ rfl
          simp only [Enc.size, Nat.add_zero] at f0 f1 f2 f3
          rw [drop_at hx] at hC hE
          have n1 : ¬ (k : Int) < 0 := by omega
          have n2 : (k : Int) < p.length := by omega
          have n3 : ¬ p.length ≤ k := by omega
          have g5 : IntKind.i64.wrap ((k : Int) + 1) = (k : Int) + 1 := IntWalk.i64_in _ (by omega)
          obtain ⟨xk, xr, xn, xv⟩ := x
          have HA : Hd w0 _ (wr.alloc (.cells #[.int .i64 xk, .int .i64 xr, .int .i64 xn, .int .i64 xv] 39)) := H3.fol
          rw [checkGo] at hC
          rw [endsGo] at hE
          dsimp only at f0 f1 f2 f3 hC hE
          have hfo : fieldsM ⟨xk, xr, xn, xv⟩ = true := by
            cases hf : fieldsM ⟨xk, xr, xn, xv⟩ with
            | true => rfl
            | false => rw [if_pos hf] at hC; rw [← hC] at hc; simp at hc
          rw [if_neg (by rw [hfo]; decide)] at hC
          clear hcell HR hv4
          by_cases h10 : xk = 10
          · subst h10
            rw [if_pos rfl] at hC hE
            have hn4 : ¬ n = 4 := fun e => by rw [if_pos e] at hC; rw [← hC] at hc; simp at hc
            rw [if_neg hn4] at hC
            have hI2 := Lib.hid (hI.open_ hx)
            have hS : ∀ {v' : Value} {L : List Pr} {w : World}, Hd w0 (Slc 3 1 v' (o.length + 1) (flat o ++ [.int .i64 k]) :: L) w → Hd w0 (SlE 3 v' (o ++ [(k : Int)]) :: L) w := by
              intro v' L w h
              have e1 : (o ++ [(k : Int)]).length = o.length + 1 := by simp
              have e2 : flat (o ++ [(k : Int)]) = flat o ++ [.int .i64 k] := by rw [flat_append, flat_one]; rfl
              unfold SlE
              rw [e1, e2]
              exact h
            replace hC := Lib.hid hC
            replace hE := Lib.hid hE
            have HP : Hd w0 _ ((wr.alloc (.cells #[.int .i64 10, .int .i64 xr, .int .i64 xn, .int .i64 xv] 39)).alloc (.cells #[.int .i64 k] 3)) := HA.fol
            clear hI hx H3
            go_wp2_with (at_builtin; (refine wpList_append_slc rfl _ _ 26 rfl 3 i0 _ 1 8 Tryz.underlying26 hi hz0 hz1 hz2 rfl _ _ _ rfl (HP.v vv) ⟨wr.heap.size + 1, 0, none⟩ 1 1 [.int .i64 k] rfl rfl (cel_news (HP.k (wr.heap.size + 1))) (by simp [Value.oneCell']) (by unfold maxLen; omega) (by omega) ?_); intro v' w4 H4; have HF := hS H4)
            go_roundw
            case rel => exact ⟨k + 1, n + 1, e, o ++ [(k : Int)], _, by omega, by simp, rfl, hI2.out, by rw [List.length_append, hon]; rfl, by omega, hC.out, hE.out, by exact HF.re⟩
            case measure => simp [intOf]; omega
          · rw [if_neg h10] at hC hE
            by_cases h11 : xk = 11
            · subst h11
              rw [if_pos rfl] at hC hE
              have hn0 : ¬ n = 0 := fun e => by rw [if_pos e] at hC; rw [← hC] at hc; simp at hc
              rw [if_neg hn0] at hC
              rcases nil_or_snoc o with rfl | ⟨l, y, rfl⟩
              · exact absurd hon.symm hn0
              obtain ⟨j, rfl, hjk⟩ := hI.op y (by simp)
              have hI2 := Lib.hid (hI.close hx h10)
              rw [List.getLast?_concat, List.dropLast_concat, Option.getD_some, Int.toNat_natCast] at hE
              have hl1 : (l ++ [(j : Int)]).length = l.length + 1 := by simp
              obtain ⟨g2, cap2, hov, HB⟩ := (HA.v vv).slc_at (by omega)
              rw [hl1] at hov HB
              subst hov
              have hcap := HB.slcC.2.1
              have hcm2 := HB.slcC.2.2.1
              have cg : (wr.alloc (.cells #[.int .i64 11, .int .i64 xr, .int .i64 xn, .int .i64 xv] 39)).cell? ⟨g2, l.length, none⟩ = some (.int .i64 j) := by
                have := HB.slcC_rd (flat_at (l := l ++ [(j : Int)]) (k := l.length) (x := (j : Int)) (by simp) (j := 0) (u := .int .i64 j) rfl)
                simpa [Enc.size] using this
              have hel := hI.len
              have c3 : (wr.alloc (.cells #[.int .i64 11, .int .i64 xr, .int .i64 xn, .int .i64 xv] 39)).cell? ⟨w2.heap.size, 3, none⟩ = some (.slice (some ⟨w1.heap.size, 0, none⟩) p.length p.length) := (HB.k w2.heap.size).ce 3 rfl
              have HE := HB.k w1.heap.size
              obtain ⟨ej, hej⟩ : ∃ y, e[j]? = some y := ⟨e[j]'(by omega), List.getElem?_eq_getElem _⟩
              have ce : (wr.alloc (.cells #[.int .i64 11, .int .i64 xr, .int .i64 xn, .int .i64 xv] 39)).cell? ⟨w1.heap.size, j, none⟩ = some (.int .i64 ej) := by
                have := HE.slcC_rd (flat_at hej (j := 0) rfl)
                simpa [Enc.size] using this
              have fe := HE.slcC_fr j
              have HS := HE.slcC_set (j := j) (by rw [flat_len]; simp [Enc.size]; omega) (.int .i64 k)
              have e3 : (flat e).set j (.int .i64 k) = flat (e.set j (k : Int)) := by
                have := flat_set (l := e) (k := j) (x := ej) (y := (k : Int)) hej (j := 0) (v := .int .i64 k) (by decide) rfl
                simpa [Enc.size] using this
              rw [e3] at HS
              have HC := HS.b2.slcC_cut (k := l.length) (c := cap2) (by omega) (by omega) (Nat.le_refl _)
              have e5 : (flat (l ++ [(j : Int)])).take (l.length * Enc.size Int) = flat l := by rw [flat_take, List.take_left' rfl]
              rw [e5] at HC
              have HD := HC.slc_mk.b2
              have e6 : e.length = (e.set j (k : Int)).length := by rw [List.length_set]
              rw [e6] at HD
              clear HC HS e5 e6
              have g6 : IntKind.i64.wrap (((l.length : Int) + 1) - 1) = (l.length : Int) := by rw [IntWalk.i64_in _ (by omega)]; omega
              have g7 : IntKind.i64.wrap (l.length : Int) = (l.length : Int) := IntWalk.i64_in _ (by omega)
              have m4 : (l.length : Int) < (l.length : Int) + 1 := by omega
              have m0 : ¬ (j : Int) < 0 := by omega
              have m1 : (j : Int) < p.length := by omega
              have m2 : ¬ p.length ≤ j := by omega
              have m3 : l.length ≤ cap2 := by omega
              have hll := Lib.hid (show l.length = n - 1 by rw [← hon]; simp)
              replace hC := Lib.hid hC
              replace hE := Lib.hid hE
              replace hon := Lib.hid hon
              clear hI hx H3 HB HE hcm2 e3 hl1 hej hel HA
              go_wp2_with fail
              refine wp_region_still_tail 12 (by kernel_rfl) (by kernel_rfl) ?_
              simp only [List.take_succ_cons, List.take_zero, List.drop_succ_cons, List.drop_zero, World.drew_eq]
              (repeat still_step)
              refine wpStill_nil ?_
              go_wp2_with fail
              go_roundw
              case rel => exact ⟨k + 1, n - 1, e.set j (k : Int), l, _, by omega, by simp, rfl, hI2.out, hll.out, by omega, hC.out, hE.out, by exact (Hd.re HD).drew⟩
              case measure => simp [intOf]; omega
            · rw [if_neg h11] at hC hE
              have hI2 := Lib.hid (hI.skip hx h10)
              replace hC := Lib.hid hC
              replace hE := Lib.hid hE
              clear hI hx H3
              go_wp2_with fail
              go_roundw
              case rel => exact ⟨k + 1, n, e, o, _, by omega, by simp, rfl, hI2.out, hon, hn4b, hC.out, hE.out, by exact HA.re⟩
              case measure => simp [intOf]; omega
        · obtain rfl : k = p.length := by omega
          rw [List.drop_length] at hC hE
          rw [checkGo] at hC
          rw [endsGo] at hE
          have hn0 : n = 0 := by
            rcases Nat.eq_zero_or_pos n with h | h
            · exact h
            · rw [if_pos h] at hC; rw [← hC] at hc; simp at hc
          subst hn0
          have ho := List.eq_nil_of_length_eq_zero hon
          subst ho
          have hEe : e = endsOf p := by unfold endsOf; rw [← hE]
          have hW : WOk p e := hI.ok hc
          subst hEe
          have HK : Hd w0 (WkP w2.heap.size (.slice a p.length c) (.slice (some ⟨w1.heap.size, 0, none⟩) p.length p.length) t ⟨[], false⟩ :: SlE 3 (.slice (some ⟨w1.heap.size, 0, none⟩) p.length p.length) (endsOf p) :: R) wr := by
            refine WkP.shut ?_
            dsimp only
            rw [htv]
            have H4 : Hd w0 (SlEC 3 w1.heap.size p.length (endsOf p) :: cel w2.heap.size 279 #[.slice a p.length c, .int .i64 0, .bool false, .slice (some ⟨w1.heap.size, 0, none⟩) p.length p.length, .nilFunc] :: TellP t [] :: R) wr := H3.re
            have H5 := H4.slc_mk
            rw [hW.len] at H5
            have H6 : Hd w0 (cel w2.heap.size 279 #[.slice a p.length c, .int .i64 0, .bool false, .slice (some ⟨w1.heap.size, 0, none⟩) p.length p.length, .nilFunc] :: TellP t [] :: Slc 3 (Enc.size Int) (.slice (some ⟨w1.heap.size, 0, none⟩) p.length p.length) p.length (flat (endsOf p)) :: R) wr := H5.re
            unfold SlE
            rw [hW.len]
            exact H6
          have hp3 : Srd w0 (SlE 3 (.slice (some ⟨w1.heap.size, 0, none⟩) p.length p.length) (endsOf p) :: R) (.slice a p.length c) p := hp.out.of fun h => h.tail
          have hpart := cdPart hW hp3 (Srd.slE HK.tail) (p.length + 1) 0 p.length (by omega) (Nat.zero_le _) (Nat.le_refl _) (by simp) HK
          have hle := partW_le (p := p) (ends := endsOf p) (p.length + 1) 0 p.length ⟨[], false⟩ (by simp)
          clear hC hE hI hW hp3 HK H3
          have hwm : WM = if (partW p (endsOf p) (p.length + 1) 0 p.length ⟨[], false⟩).1 then (stepW (partW p (endsOf p) (p.length + 1) 0 p.length ⟨[], false⟩).2 ⟨9, 0, 0, 0⟩).2 else (partW p (endsOf p) (p.length + 1) 0 p.length ⟨[], false⟩).2 := by rw [← hWM.out]; rfl
          obtain ⟨r, hr⟩ : ∃ r, partW p (endsOf p) (p.length + 1) 0 p.length ⟨[], false⟩ = r := ⟨_, rfl⟩
          rw [hr] at hpart hle hwm
          clear hr
          have n9 : ¬ (p.length : Int) < p.length := by omega
          rw [show ((0 : Nat) : Int) = 0 from rfl] at hpart
          cases hb : r.1 with
          | false =>
            rw [hb] at hpart hwm
            rw [if_neg (by decide)] at hwm
            subst hwm
            go_wp2_with fail
            refine hpart.mono ?_
            rintro e w5 ⟨rfl, H6⟩
            clear hpart
            have d1 := (show _ = some (.int .i64 r.2.out.length) from ((WkP.opened H6).k w2.heap.size).ce 1 rfl)
            have d2 := (show _ = some (.bool r.2.over) from ((WkP.opened H6).k w2.heap.size).ce 2 rfl)
            cases ho : r.2.over with
            | true =>
              rw [ho] at d2
              go_wp2_with fail
              all_goals (go_ret2; exact ⟨ret_ii (by first | rfl | (rw [ho]; rfl) | (simp_all; done)) (by first | rfl | (rw [ho]; rfl) | (simp_all; done)), (WkP.opened H6).tail.re⟩)
            | false =>
              rw [ho] at d2
              go_wp2_with fail
              all_goals (go_ret2; exact ⟨ret_ii (by first | rfl | (rw [ho]; rfl) | (simp_all; done)) (by first | rfl | (rw [ho]; rfl) | (simp_all; done)), (WkP.opened H6).tail.re⟩)
          | true =>
            rw [hb] at hpart hwm
            rw [if_pos rfl] at hwm
            obtain ⟨q, hq⟩ : ∃ q, stepW r.2 ⟨9, 0, 0, 0⟩ = q := ⟨_, rfl⟩
            rw [hq] at hwm
            subst hwm
            go_wp2_with fail
            refine hpart.mono ?_
            rintro e w5 ⟨rfl, H5⟩
            clear hpart
            have hstep := cdStep H5 hle ⟨9, 0, 0, 0⟩
            rw [hq] at hstep
            clear H5
            go_wp2_with fail
            refine hstep.mono ?_
            rintro e w6 ⟨rfl, H6⟩
            clear hstep
            have d1 := (show _ = some (.int .i64 q.2.out.length) from ((WkP.opened H6).k w2.heap.size).ce 1 rfl)
            have d2 := (show _ = some (.bool q.2.over) from ((WkP.opened H6).k w2.heap.size).ce 2 rfl)
            cases ho : q.2.over with
            | true =>
              rw [ho] at d2
              go_wp2_with fail
              all_goals (go_ret2; exact ⟨ret_ii (by first | rfl | (rw [ho]; rfl) | (simp_all; done)) (by first | rfl | (rw [ho]; rfl) | (simp_all; done)), (WkP.opened H6).tail.re⟩)
            | false =>
              rw [ho] at d2
              go_wp2_with fail
              all_goals (go_ret2; exact ⟨ret_ii (by first | rfl | (rw [ho]; rfl) | (simp_all; done)) (by first | rfl | (rw [ho]; rfl) | (simp_all; done)), (WkP.opened H6).tail.re⟩)
    · go_enter Tryz.func118, Tryz.ntmps118
      go_wp2_with fail
      refine hcheck.mono ?_
      rintro e w1 ⟨rfl, H1⟩
      clear hcheck H
      go_wp2_with (at_make; (refine wpList_make_slc rfl _ _ 26 rfl 3 i0 _ 1 Tryz.underlying26 hi hz0 hz1 rfl _ _ _ _ p.length p.length rfl rfl rfl rfl (by omega) (by rw [hz2]; omega) (by unfold maxLen; omega) H1 ?_); intro w2 H2; replace H2 := (show Hd w0 (SlcC 3 (Enc.size Int) w1.heap.size p.length p.length (flat (zerosI p.length)) :: TellP t [] :: R) w2 by rw [← madeZeros]; exact H2))
      have HS : Hd w0 _ (w2.alloc (.cells #[.slice a p.length c, .int .i64 0, .bool false, .slice (some ⟨w1.heap.size, 0, none⟩) p.length p.length, .func (.func 119) #[] #[.pointer (some ⟨tb, 0, none⟩)]] 279)) := (show Hd w0 (SlE 3 (.slice none 0 0) ([] : List Int) :: SlcC 3 (Enc.size Int) w1.heap.size p.length p.length (flat (zerosI p.length)) :: TellP t [] :: R) w2 from H2.slc_nil _ _).fol
      go_loopw [29, 9] (fun x ov wr => ∃ (k n : Nat) (e o : List Int) (vv : Value), k ≤ p.length ∧ x = .int .i64 k ∧ vv = ov ∧ EInv p k e o ∧ o.length = n ∧ n ≤ 4 ∧ checkGo (p.drop k) k n = checkM p ∧ endsGo (p.drop k) k e o = endsGo p 0 (zerosI p.length) [] ∧
        Hd w0 (SlE 3 vv o :: cel w2.heap.size 279 #[.slice a p.length c, .int .i64 0, .bool false, .slice (some ⟨w1.heap.size, 0, none⟩) p.length p.length, .func (.func 119) #[] #[.pointer (some ⟨tb, 0, none⟩)]] :: SlEC 3 w1.heap.size p.length e :: TellP t [] :: R) wr) (fun x _ _ => p.length - (intOf x).toNat)
      case atStart => exact ⟨0, 0, zerosI p.length, [], _, Nat.zero_le _, rfl, rfl, EInv.start p, rfl, by omega, hcm.out, rfl, by
        have e1 : (zerosI p.length).length = p.length := by simp [zerosI]
        unfold SlE SlEC
        rw [e1]
        exact HS.re⟩
      case round =>
        clear HS H1 H2
        obtain ⟨k, n, e, o, vv, hk, rfl, rfl, hI, hon, hn4b, hC, hE, H3⟩ := hrel
        by_cases hlt : k < p.length
        · obtain ⟨x, hx⟩ : ∃ x, p[k]? = some x := ⟨p[k], List.getElem?_eq_getElem hlt⟩
          obtain ⟨g, c2, hv2, -, hcell⟩ := hp.out.at hx
          injection hv2 with hv3 hv4 hv5
          subst hv3; subst hv5
          have HR : Hd w0 R wr := H3.re
          have f0 := hcell HR 0 _ rfl
          have f1 := hcell HR 1 _ rfl
          have f2 := hcell HR 2 _ rfl
          have f3 := hcell HR 3 _ rfl
          simp only [Enc.size, Nat.add_zero] at f0 f1 f2 f3
          rw [drop_at hx] at hC hE
          have n1 : ¬ (k : Int) < 0 := by omega
          have n2 : (k : Int) < p.length := by omega
          have n3 : ¬ p.length ≤ k := by omega
          have g5 : IntKind.i64.wrap ((k : Int) + 1) = (k : Int) + 1 := IntWalk.i64_in _ (by omega)
          obtain ⟨xk, xr, xn, xv⟩ := x
          have HA : Hd w0 _ (wr.alloc (.cells #[.int .i64 xk, .int .i64 xr, .int .i64 xn, .int .i64 xv] 39)) := H3.fol
          rw [checkGo] at hC
          rw [endsGo] at hE
          dsimp only at f0 f1 f2 f3 hC hE
          have hfo : fieldsM ⟨xk, xr, xn, xv⟩ = true := by
            cases hf : fieldsM ⟨xk, xr, xn, xv⟩ with
            | true => rfl
            | false => rw [if_pos hf] at hC; rw [← hC] at hc; simp at hc
          rw [if_neg (by rw [hfo]; decide)] at hC
          clear hcell HR hv4
          by_cases h10 : xk = 10
          · subst h10
            rw [if_pos rfl] at hC hE
            have hn4 : ¬ n = 4 := fun e => by rw [if_pos e] at hC; rw [← hC] at hc; simp at hc
            rw [if_neg hn4] at hC
            have hI2 := Lib.hid (hI.open_ hx)
            have hS : ∀ {v' : Value} {L : List Pr} {w : World}, Hd w0 (Slc 3 1 v' (o.length + 1) (flat o ++ [.int .i64 k]) :: L) w → Hd w0 (SlE 3 v' (o ++ [(k : Int)]) :: L) w := by
              intro v' L w h
              have e1 : (o ++ [(k : Int)]).length = o.length + 1 := by simp
              have e2 : flat (o ++ [(k : Int)]) = flat o ++ [.int .i64 k] := by rw [flat_append, flat_one]; rfl
              unfold SlE
              rw [e1, e2]
              exact h
            replace hC := Lib.hid hC
            replace hE := Lib.hid hE
            have HP : Hd w0 _ ((wr.alloc (.cells #[.int .i64 10, .int .i64 xr, .int .i64 xn, .int .i64 xv] 39)).alloc (.cells #[.int .i64 k] 3)) := HA.fol
            clear hI hx H3
            go_wp2_with (at_builtin; (refine wpList_append_slc rfl _ _ 26 rfl 3 i0 _ 1 8 Tryz.underlying26 hi hz0 hz1 hz2 rfl _ _ _ rfl (HP.v vv) ⟨wr.heap.size + 1, 0, none⟩ 1 1 [.int .i64 k] rfl rfl (cel_news (HP.k (wr.heap.size + 1))) (by simp [Value.oneCell']) (by unfold maxLen; omega) (by omega) ?_); intro v' w4 H4; have HF := hS H4)
            go_roundw
            case rel => exact ⟨k + 1, n + 1, e, o ++ [(k : Int)], _, by omega, by simp, rfl, hI2.out, by rw [List.length_append, hon]; rfl, by omega, hC.out, hE.out, by exact HF.re⟩
            case measure => simp [intOf]; omega
          · rw [if_neg h10] at hC hE
            by_cases h11 : xk = 11
            · subst h11
              rw [if_pos rfl] at hC hE
              have hn0 : ¬ n = 0 := fun e => by rw [if_pos e] at hC; rw [← hC] at hc; simp at hc
              rw [if_neg hn0] at hC
              rcases nil_or_snoc o with rfl | ⟨l, y, rfl⟩
              · exact absurd hon.symm hn0
              obtain ⟨j, rfl, hjk⟩ := hI.op y (by simp)
              have hI2 := Lib.hid (hI.close hx h10)
              rw [List.getLast?_concat, List.dropLast_concat, Option.getD_some, Int.toNat_natCast] at hE
              have hl1 : (l ++ [(j : Int)]).length = l.length + 1 := by simp
              obtain ⟨g2, cap2, hov, HB⟩ := (HA.v vv).slc_at (by omega)
              rw [hl1] at hov HB
              subst hov
              have hcap := HB.slcC.2.1
              have hcm2 := HB.slcC.2.2.1
              have cg : (wr.alloc (.cells #[.int .i64 11, .int .i64 xr, .int .i64 xn, .int .i64 xv] 39)).cell? ⟨g2, l.length, none⟩ = some (.int .i64 j) := by
                have := HB.slcC_rd (flat_at (l := l ++ [(j : Int)]) (k := l.length) (x := (j : Int)) (by simp) (j := 0) (u := .int .i64 j) rfl)
                simpa [Enc.size] using this
              have hel := hI.len
              have c3 : (wr.alloc (.cells #[.int .i64 11, .int .i64 xr, .int .i64 xn, .int .i64 xv] 39)).cell? ⟨w2.heap.size, 3, none⟩ = some (.slice (some ⟨w1.heap.size, 0, none⟩) p.length p.length) := (HB.k w2.heap.size).ce 3 rfl
              have HE := HB.k w1.heap.size
              obtain ⟨ej, hej⟩ : ∃ y, e[j]? = some y := ⟨e[j]'(by omega), List.getElem?_eq_getElem _⟩
              have ce : (wr.alloc (.cells #[.int .i64 11, .int .i64 xr, .int .i64 xn, .int .i64 xv] 39)).cell? ⟨w1.heap.size, j, none⟩ = some (.int .i64 ej) := by
                have := HE.slcC_rd (flat_at hej (j := 0) rfl)
                simpa [Enc.size] using this
              have fe := HE.slcC_fr j
              have HS := HE.slcC_set (j := j) (by rw [flat_len]; simp [Enc.size]; omega) (.int .i64 k)
              have e3 : (flat e).set j (.int .i64 k) = flat (e.set j (k : Int)) := by
                have := flat_set (l := e) (k := j) (x := ej) (y := (k : Int)) hej (j := 0) (v := .int .i64 k) (by decide) rfl
                simpa [Enc.size] using this
              rw [e3] at HS
              have HC := HS.b2.slcC_cut (k := l.length) (c := cap2) (by omega) (by omega) (Nat.le_refl _)
              have e5 : (flat (l ++ [(j : Int)])).take (l.length * Enc.size Int) = flat l := by rw [flat_take, List.take_left' rfl]
              rw [e5] at HC
              have HD := HC.slc_mk.b2
              have e6 : e.length = (e.set j (k : Int)).length := by rw [List.length_set]
              rw [e6] at HD
              clear HC HS e5 e6
              have g6 : IntKind.i64.wrap (((l.length : Int) + 1) - 1) = (l.length : Int) := by rw [IntWalk.i64_in _ (by omega)]; omega
              have g7 : IntKind.i64.wrap (l.length : Int) = (l.length : Int) := IntWalk.i64_in _ (by omega)
              have m4 : (l.length : Int) < (l.length : Int) + 1 := by omega
              have m0 : ¬ (j : Int) < 0 := by omega
              have m1 : (j : Int) < p.length := by omega
              have m2 : ¬ p.length ≤ j := by omega
              have m3 : l.length ≤ cap2 := by omega
              have hll := Lib.hid (show l.length = n - 1 by rw [← hon]; simp)
              replace hC := Lib.hid hC
              replace hE := Lib.hid hE
              replace hon := Lib.hid hon
              clear hI hx H3 HB HE hcm2 e3 hl1 hej hel HA
              go_wp2_with fail
              refine wp_region_still_tail 12 (by kernel_rfl) (by kernel_rfl) ?_
              simp only [List.take_succ_cons, List.take_zero, List.drop_succ_cons, List.drop_zero, World.drew_eq]
              (repeat still_step)
              refine wpStill_nil ?_
              go_wp2_with fail
              go_roundw
              case rel => exact ⟨k + 1, n - 1, e.set j (k : Int), l, _, by omega, by simp, rfl, hI2.out, hll.out, by omega, hC.out, hE.out, by exact (Hd.re HD).drew⟩
              case measure => simp [intOf]; omega
            · rw [if_neg h11] at hC hE
              have hI2 := Lib.hid (hI.skip hx h10)
              replace hC := Lib.hid hC
              replace hE := Lib.hid hE
              clear hI hx H3
              go_wp2_with fail
              go_roundw
              case rel => exact ⟨k + 1, n, e, o, _, by omega, by simp, rfl, hI2.out, hon, hn4b, hC.out, hE.out, by exact HA.re⟩
              case measure => simp [intOf]; omega
        · obtain rfl : k = p.length := by omega
          rw [List.drop_length] at hC hE
          rw [checkGo] at hC
          rw [endsGo] at hE
          have hn0 : n = 0 := by
            rcases Nat.eq_zero_or_pos n with h | h
            · exact h
            · rw [if_pos h] at hC; rw [← hC] at hc; simp at hc
          subst hn0
          have ho := List.eq_nil_of_length_eq_zero hon
          subst ho
          have hEe : e = endsOf p := by unfold endsOf; rw [← hE]
          have hW : WOk p e := hI.ok hc
          subst hEe
          have HK : Hd w0 (WkP w2.heap.size (.slice a p.length c) (.slice (some ⟨w1.heap.size, 0, none⟩) p.length p.length) t ⟨[], false⟩ :: SlE 3 (.slice (some ⟨w1.heap.size, 0, none⟩) p.length p.length) (endsOf p) :: R) wr := by
            refine WkP.shut ?_
            dsimp only
            rw [htv]
            have H4 : Hd w0 (SlEC 3 w1.heap.size p.length (endsOf p) :: cel w2.heap.size 279 #[.slice a p.length c, .int .i64 0, .bool false, .slice (some ⟨w1.heap.size, 0, none⟩) p.length p.length, .func (.func 119) #[] #[.pointer (some ⟨tb, 0, none⟩)]] :: TellP t [] :: R) wr := H3.re
            have H5 := H4.slc_mk
            rw [hW.len] at H5
            have H6 : Hd w0 (cel w2.heap.size 279 #[.slice a p.length c, .int .i64 0, .bool false, .slice (some ⟨w1.heap.size, 0, none⟩) p.length p.length, .func (.func 119) #[] #[.pointer (some ⟨tb, 0, none⟩)]] :: TellP t [] :: Slc 3 (Enc.size Int) (.slice (some ⟨w1.heap.size, 0, none⟩) p.length p.length) p.length (flat (endsOf p)) :: R) wr := H5.re
            unfold SlE
            rw [hW.len]
            exact H6
          have hp3 : Srd w0 (SlE 3 (.slice (some ⟨w1.heap.size, 0, none⟩) p.length p.length) (endsOf p) :: R) (.slice a p.length c) p := hp.out.of fun h => h.tail
          have hpart := cdPart hW hp3 (Srd.slE HK.tail) (p.length + 1) 0 p.length (by omega) (Nat.zero_le _) (Nat.le_refl _) (by simp) HK
          have hle := partW_le (p := p) (ends := endsOf p) (p.length + 1) 0 p.length ⟨[], false⟩ (by simp)
          clear hC hE hI hW hp3 HK H3
          have hwm : WM = if (partW p (endsOf p) (p.length + 1) 0 p.length ⟨[], false⟩).1 then (stepW (partW p (endsOf p) (p.length + 1) 0 p.length ⟨[], false⟩).2 ⟨9, 0, 0, 0⟩).2 else (partW p (endsOf p) (p.length + 1) 0 p.length ⟨[], false⟩).2 := by rw [← hWM.out]; rfl
          obtain ⟨r, hr⟩ : ∃ r, partW p (endsOf p) (p.length + 1) 0 p.length ⟨[], false⟩ = r := ⟨_, rfl⟩
          rw [hr] at hpart hle hwm
          clear hr
          have n9 : ¬ (p.length : Int) < p.length := by omega
          rw [show ((0 : Nat) : Int) = 0 from rfl] at hpart
          cases hb : r.1 with
          | false =>
            rw [hb] at hpart hwm
            rw [if_neg (by decide)] at hwm
            subst hwm
            go_wp2_with fail
            refine hpart.mono ?_
            rintro e w5 ⟨rfl, H6⟩
            clear hpart
            have d1 := (show _ = some (.int .i64 r.2.out.length) from ((WkP.opened H6).k w2.heap.size).ce 1 rfl)
            have d2 := (show _ = some (.bool r.2.over) from ((WkP.opened H6).k w2.heap.size).ce 2 rfl)
            cases ho : r.2.over with
            | true =>
              rw [ho] at d2
              go_wp2_with fail
              all_goals (go_ret2; exact ⟨ret_ii (by first | rfl | (rw [ho]; rfl) | (simp_all; done)) (by first | rfl | (rw [ho]; rfl) | (simp_all; done)), (WkP.opened H6).tail.re⟩)
            | false =>
              rw [ho] at d2
              go_wp2_with fail
              all_goals (go_ret2; exact ⟨ret_ii (by first | rfl | (rw [ho]; rfl) | (simp_all; done)) (by first | rfl | (rw [ho]; rfl) | (simp_all; done)), (WkP.opened H6).tail.re⟩)
          | true =>
            rw [hb] at hpart hwm
            rw [if_pos rfl] at hwm
            obtain ⟨q, hq⟩ : ∃ q, stepW r.2 ⟨9, 0, 0, 0⟩ = q := ⟨_, rfl⟩
            rw [hq] at hwm
            subst hwm
            go_wp2_with fail
            refine hpart.mono ?_
            rintro e w5 ⟨rfl, H5⟩
            clear hpart
            have hstep := cdStep H5 hle ⟨9, 0, 0, 0⟩
            rw [hq] at hstep
            clear H5
            go_wp2_with fail
            refine hstep.mono ?_
            rintro e w6 ⟨rfl, H6⟩
            clear hstep
            have d1 := (show _ = some (.int .i64 q.2.out.length) from ((WkP.opened H6).k w2.heap.size).ce 1 rfl)
            have d2 := (show _ = some (.bool q.2.over) from ((WkP.opened H6).k w2.heap.size).ce 2 rfl)
            cases ho : q.2.over with
            | true =>
              rw [ho] at d2
              go_wp2_with fail
              all_goals (go_ret2; exact ⟨ret_ii (by first | rfl | (rw [ho]; rfl) | (simp_all; done)) (by first | rfl | (rw [ho]; rfl) | (simp_all; done)), (WkP.opened H6).tail.re⟩)
            | false =>
              rw [ho] at d2
              go_wp2_with fail
              all_goals (go_ret2; exact ⟨ret_ii (by first | rfl | (rw [ho]; rfl) | (simp_all; done)) (by first | rfl | (rw [ho]; rfl) | (simp_all; done)), (WkP.opened H6).tail.re⟩)
  · rw [if_neg hc, if_neg hc, if_neg hc]
    obtain ⟨E, hE⟩ : ∃ E, (checkM p).2 = E := ⟨_, rfl⟩
    rw [hE] at hcheck hc ⊢
    subst hv
    clear hp hp2
    go_enter Tryz.func118, Tryz.ntmps118
    go_wp2_with fail
    refine hcheck.mono ?_
    rintro e w1 ⟨rfl, H1⟩
    go_wp2_with fail
    go_ret2
    exact ⟨rfl, H1⟩
end
end Go.Proofs.YtogcikilphakmaaGreatDoor

/-
  Package code: Count, Steps. Every program.
-/
namespace Go.Proofs.YtogcikilphakmaaGreatDoor
open Go.RowKit Spl
section
variable {w0 w : World} {R : List Pr} {pv : Value}
set_option maxHeartbeats 1600000 in
theorem cdCount {p : List OpM} (H : Hd w0 R w) (hp : Srd w0 R pv p) :
    Calls Tryz.prog 117 #[pv] w fun e w' => e = .returned (.tuple #[.int .i64 (if (checkM p).2 = 0 then (if (walkM p).over then 0 else (walkM p).out.length) else 0), .int .i64 (stepsM p).2]) ∧ Hd w0 R w' := by
  have h1 := cdWalk (t := .nobody) (Hd.put trivial H) hp
  have e2 : (if (checkM p).2 = 0 then (if (walkM p).over then 5 else 0) else (checkM p).2) = (stepsM p).2 := by
    unfold stepsM
    split
    · split <;> rfl
    · rfl
  rw [e2] at h1
  obtain ⟨n, hn⟩ : ∃ n : Int, (if (checkM p).2 = 0 then (if (walkM p).over then 0 else ((walkM p).out.length : Int)) else 0) = n := ⟨_, rfl⟩
  obtain ⟨E, hE⟩ : ∃ E, (stepsM p).2 = E := ⟨_, rfl⟩
  rw [hn, hE] at h1
  rw [hn, hE]
  simp only [TellM.v] at h1
  clear hp H e2 hn hE
  go_enter Tryz.func117, Tryz.ntmps117
  go_wp2_with fail
  refine h1.mono ?_
  rintro e w1 ⟨rfl, H1⟩
  go_wp2_with fail
  go_ret2
  exact ⟨rfl, H1.tail⟩

set_option maxRecDepth 20000 in
set_option maxHeartbeats 1600000 in
theorem cdSteps {p : List OpM} (H : Hd w0 R w) (hp : Srd w0 R pv p) :
    Calls Tryz.prog 85 #[pv] w fun e w' => ∃ v, e = .returned (.tuple #[v, .int .i64 (stepsM p).2]) ∧ Hd w0 (SlE 39 v (stepsM p).1 :: R) w' := by
  have hcount := cdCount H hp
  by_cases hz : (stepsM p).2 = 0
  · have hc : (checkM p).2 = 0 := by
      unfold stepsM at hz
      split at hz
      · assumption
      · exact hz
    have ho : (walkM p).over = false := by
      unfold stepsM at hz
      rw [if_pos hc] at hz
      cases ho : (walkM p).over with
      | false => rfl
      | true => rw [ho] at hz; simp at hz
    have hs : stepsM p = ((walkM p).out, 0) := by unfold stepsM; rw [if_pos hc, ho]; rfl
    have hl : (walkM p).out.length ≤ 4096 := by
      have := partW_le (p := p) (ends := endsOf p) (p.length + 1) 0 p.length ⟨[], false⟩ (by simp)
      unfold walkM
      split
      · exact stepW_le this
      · exact this
    rw [hz, if_pos hc, ho] at hcount
    simp only [Bool.false_eq_true, if_false] at hcount
    rw [hs]
    obtain ⟨i0, hi, hz0, hz1, hz2⟩ := info_parts cdInfoOp
    have hwalk : ∀ (lb : Nat) (w3 : World), Hd w0 (TellP (.box lb) [] :: R) w3 → Calls Tryz.prog 118 #[pv, .func (.func 119) #[] #[.pointer (some ⟨lb, 0, none⟩)]] w3 fun e w' => e = .returned (.tuple #[.int .i64 (walkM p).out.length, .int .i64 0]) ∧ Hd w0 (TellP (.box lb) (walkM p).out :: R) w' := by
      intro lb w3 h3
      have := cdWalk (t := .box lb) h3 hp
      rw [if_pos hc, if_pos hc, if_pos hc, ho] at this
      simpa [TellM.v] using this
    obtain ⟨L, hL⟩ : ∃ L, (walkM p).out = L := ⟨_, rfl⟩
    rw [hL] at hcount hwalk hl ⊢
    replace hwalk := Lib.hid hwalk
    clear hp hL hs ho hc hz
    go_enter Tryz.func85, Tryz.ntmps85
    go_wp2_with fail
    refine hcount.mono ?_
    rintro e w1 ⟨rfl, H1⟩
    clear hcount H
    go_wp2_with (at_make; (refine wpList_make_slc rfl _ _ 125 rfl 39 i0 _ 4 Tryz.underlying125 hi hz0 hz1 rfl _ _ _ _ 0 L.length rfl rfl rfl rfl (by omega) (by rw [hz2]; omega) (by unfold maxLen; omega) H1 ?_); intro w2 H2; rw [madeCells_zero] at H2; have HS : Hd w0 _ (w2.alloc (.cells #[.slice (some ⟨w1.heap.size, 0, none⟩) 0 L.length] 125)) := (show Hd w0 (SlE 39 (.slice (some ⟨w1.heap.size, 0, none⟩) 0 L.length) ([] : List OpM) :: R) w2 from H2.slc_mk).fol; have hw := hwalk.out w2.heap.size _ (TellP.shut (tb := w2.heap.size) (l := []) (v := .slice (some ⟨w1.heap.size, 0, none⟩) 0 L.length) HS))
    refine hw.mono ?_
    rintro e w3 ⟨rfl, H4⟩
    clear hw HS H2 H1
    obtain ⟨v, H5⟩ := TellP.opened H4
    have c0 := (show _ = some v from (H5.k w2.heap.size).ce 0 rfl)
    obtain ⟨a', c', hv, -, -, -, -⟩ := H5.tail.slc_form
    subst hv
    go_wp2_with fail
    go_ret2
    exact ⟨_, rfl, H5.tail⟩
  · have hs : (stepsM p).1 = [] := by
      unfold stepsM at hz ⊢
      split
      · rename_i hc
        rw [if_pos hc] at hz
        split
        · rfl
        · rename_i h2
          rw [if_neg h2] at hz
          exact absurd rfl hz
      · rfl
    rw [hs]
    obtain ⟨E, hE⟩ : ∃ E, (stepsM p).2 = E := ⟨_, rfl⟩
    rw [hE] at hcount hz ⊢
    obtain ⟨n, hn⟩ : ∃ n : Int, (if (checkM p).2 = 0 then (if (walkM p).over then 0 else ((walkM p).out.length : Int)) else 0) = n := ⟨_, rfl⟩
    rw [hn] at hcount
    clear hp hs hE H hn
    go_enter Tryz.func85, Tryz.ntmps85
    go_wp2_with fail
    refine hcount.mono ?_
    rintro e w1 ⟨rfl, H1⟩
    go_wp2_with fail
    go_ret2
    exact ⟨_, rfl, H1.slc_nil _ _⟩
end
end Go.Proofs.YtogcikilphakmaaGreatDoor

/-
  The task table in plain terms, and how it lies in memory: its rows' needs and steps lie among what is only read.
-/
namespace Go.Proofs.YtogcikilphakmaaGreatDoor
open Go.RowKit Spl

structure TaskM where
  nm : ByteArray
  lv : Int
  fr : Int
  needs : List NeedM
  cd : ByteArray
  p : Int
  f : Int
  g : Int
structure RowM where
  t : TaskM
  steps : List OpM
structure TkM where
  words : Int
  units : List Int
  rows : List RowM
  names : List RowN
structure RowIs (S : Hp) (r : RowM) (v : RowV) : Prop where
  nm : v.nm = r.t.nm
  lv : v.lv = r.t.lv
  fr : v.fr = r.t.fr
  cd : v.cd = r.t.cd
  p : v.p = r.t.p
  f : v.f = r.t.f
  g : v.g = r.t.g
  needs : RoE S 58 (.slice v.na v.nl v.nc) r.t.needs
  steps : RoE S 39 (.slice v.sa v.sl v.sc) r.steps
theorem RowIs.mono {S S' : Hp} {r : RowM} {v : RowV} (h : RowIs S r v) (k : Le S S') : RowIs S' r v := ⟨h.nm, h.lv, h.fr, h.cd, h.p, h.f, h.g, h.needs.mono k, h.steps.mono k⟩
structure RowsAre (S : Hp) (rs : List RowM) (vs : List RowV) : Prop where
  len : vs.length = rs.length
  at_ : ∀ (i : Nat) (r : RowM) (v : RowV), rs[i]? = some r → vs[i]? = some v → RowIs S r v
theorem RowsAre.mono {S S' : Hp} {rs : List RowM} {vs : List RowV} (h : RowsAre S rs vs) (k : Le S S') : RowsAre S' rs vs := ⟨h.len, fun i r v a b => (h.at_ i r v a b).mono k⟩
theorem RowsAre.get {S : Hp} {rs : List RowM} {vs : List RowV} (h : RowsAre S rs vs) {i : Nat} {r : RowM} (hr : rs[i]? = some r) : ∃ v, vs[i]? = some v ∧ RowIs S r v := by
  have hi : i < vs.length := by rw [h.len]; exact lt_of_get? hr
  exact ⟨vs[i], List.getElem?_eq_getElem hi, h.at_ i r _ hr (List.getElem?_eq_getElem hi)⟩
theorem RowsAre.snoc {S : Hp} {rs : List RowM} {vs : List RowV} {r : RowM} {v : RowV} (h : RowsAre S rs vs) (hv : RowIs S r v) : RowsAre S (rs ++ [r]) (vs ++ [v]) := by
  refine ⟨by simp [h.len], fun i a b ha hb => ?_⟩
  by_cases hi : i < rs.length
  · rw [List.getElem?_append_left hi] at ha
    rw [List.getElem?_append_left (by rw [h.len]; exact hi)] at hb
    exact h.at_ i a b ha hb
  · rw [List.getElem?_append_right (by omega)] at ha
    rw [List.getElem?_append_right (by rw [h.len]; omega), h.len] at hb
    obtain h0 : i - rs.length = 0 := by have := lt_of_get? ha; simp at this; omega
    rw [h0] at ha hb
    simp at ha hb
    subst ha; subst hb
    exact hv
structure TkV where
  vu : Value
  vr : Value
  vn : Value
  rows : List RowV
def TkP (t : Nat) (m : TkM) (S : Hp) : Pr := ex fun x : TkV => all [fact (RowsAre S m.rows x.rows), cel t 104 #[.int .i64 m.words, x.vu, x.vr, x.vn], SlE 3 x.vu m.units, SlE 127 x.vr x.rows, SlE 196 x.vn m.names]
instance (t : Nat) (m : TkM) (S : Hp) : Key (TkP t m S) (.b t) := ⟨trivial⟩
structure TkM.Ok (m : TkM) : Prop where
  w : 0 ≤ m.words ∧ m.words ≤ 65536
  u : m.units.length ≤ 16
  uv : ∀ x ∈ m.units, 1 ≤ x ∧ x ≤ 255
  n : m.rows.length ≤ 64
  lv : ∀ r ∈ m.rows, 1 ≤ r.t.lv ∧ r.t.lv ≤ 32
  fr : ∀ r ∈ m.rows, 0 ≤ r.t.fr ∧ r.t.fr ≤ 4096
  nd : ∀ r ∈ m.rows, r.t.needs.length ≤ 16 ∧ ∀ x ∈ r.t.needs, 0 ≤ x.res ∧ x.res < m.units.length ∧ 1 ≤ x.units ∧ x.units ≤ 255
  st : ∀ r ∈ m.rows, r.steps.length ≤ 4096
  nm : Sorted m.names
  nn : m.names.length = m.rows.length
section
variable {w0 w : World} {R : List Pr} {t : Nat} {m : TkM} {S : Hp}
theorem TkP.opened (H : Hd w0 (TkP t m S :: R) w) : ∃ x : TkV, RowsAre S m.rows x.rows ∧ Hd w0 (cel t 104 #[.int .i64 m.words, x.vu, x.vr, x.vn] :: SlE 3 x.vu m.units :: SlE 127 x.vr x.rows :: SlE 196 x.vn m.names :: R) w := by
  obtain ⟨x, H⟩ := H.out
  have H2 := H.flat
  exact ⟨x, Hd.get H2, H2.tail⟩
theorem TkP.shut {x : TkV} (H : Hd w0 (cel t 104 #[.int .i64 m.words, x.vu, x.vr, x.vn] :: SlE 3 x.vu m.units :: SlE 127 x.vr x.rows :: SlE 196 x.vn m.names :: R) w) (h : RowsAre S m.rows x.rows) : Hd w0 (TkP t m S :: R) w :=
  Hd.into x (Hd.pack (L := [_, _, _, _, _]) (Hd.put h H))
theorem TkP.mono {S' : Hp} (H : Hd w0 (TkP t m S :: R) w) (k : Le S S') : Hd w0 (TkP t m S' :: R) w := by
  obtain ⟨x, hx, H1⟩ := TkP.opened H
  exact TkP.shut H1 (hx.mono k)

theorem tkLen (H : Hd w0 (TkP t m S :: R) w) : Calls Tryz.prog 190 #[.pointer (some ⟨t, 0, none⟩)] w fun e w' => e = .returned (.int .i64 m.rows.length) ∧ w = w' := by
  obtain ⟨⟨vu, vr, vn, rows⟩, hx, H1⟩ := TkP.opened H
  have hc := stkLen_row (o := 2) ((H1.v vr).k t) rfl
  rw [hx.len] at hc
  clear H H1 hx
  go_enter Tryz.func190, Tryz.ntmps190
  go_wp2_with fail
  refine hc.mono ?_
  rintro e w' ⟨rfl, rfl⟩
  go_wp2_with fail
  go_ret
  exact ⟨rfl, rfl⟩
theorem tkWords (H : Hd w0 (TkP t m S :: R) w) : Calls Tryz.prog 73 #[.pointer (some ⟨t, 0, none⟩)] w fun e w' => e = .returned (.int .i64 m.words) ∧ w = w' := by
  obtain ⟨⟨vu, vr, vn, rows⟩, hx, H1⟩ := TkP.opened H
  have c0 := (show _ = some (.int .i64 m.words) from (H1.k t).ce 0 rfl)
  clear H H1 hx
  go_enter Tryz.func73, Tryz.ntmps73
  go_wp2_with fail
  go_ret
  exact ⟨rfl, rfl⟩
set_option maxRecDepth 20000 in
set_option maxHeartbeats 1600000 in
theorem tkUnits (H : Hd w0 (TkP t m S :: R) w) (hm : m.Ok) : Calls Tryz.prog 75 #[.pointer (some ⟨t, 0, none⟩)] w fun e w' => ∃ g, e = .returned (.slice (some ⟨g, 0, none⟩) m.units.length m.units.length) ∧ Hd w0 (SlEC 3 g m.units.length m.units :: TkP t m S :: R) w' := by
  obtain ⟨⟨vu, vr, vn, rows⟩, hx, H1⟩ := TkP.opened H
  obtain ⟨a, cap, rfl, -, -, -, -⟩ := (H1.v vu).slc_form
  have c1 := (show _ = some (.slice a m.units.length cap) from (H1.k t).ce 1 rfl)
  have hu := hm.u
  obtain ⟨i0, hi, hz0, hz1, hz2⟩ := info_parts cdInfoInt
  have hfl := Lib.hid (flat_len m.units)
  have hsh := Lib.hid (fun (w' : World) (L : List Pr) (h : Hd w0 (cel t 104 #[.int .i64 m.words, .slice a m.units.length cap, vr, vn] :: SlE 3 (.slice a m.units.length cap) m.units :: SlE 127 vr rows :: SlE 196 vn m.names :: L) w') => TkP.shut (S := S) (m := m) (x := ⟨_, vr, vn, rows⟩) h hx)
  clear H hx hm
  go_enter Tryz.func75, Tryz.ntmps75
  go_wp2_with fail
  refine wp_region_mix 10 [(0, true), (1, true), (2, true), (3, true), (4, true), (6, true), (7, true), (8, true), (9, true), (5, false)] (fun w' => w'.cell? ⟨t, 1, none⟩ = some (.slice a m.units.length cap)) (by kernel_rfl) (by kernel_rfl) (c1) (fun _ _ d _ _ h => by cases d <;> exact h) ?_
  simp only [List.drop_succ_cons, List.drop_zero]
  iterate 9 (refine mix_head (o := _) (v := ?_) (by (simp only [List.getElem?_toArray, List.getElem?_cons_succ, List.getElem?_cons_zero]); rfl) (by rfl) (fun w' hS => ?_) ?_; rotate_left 1; (focus ((try dsimp only at hS); (try go_split_ands); go_simp; (try with_reducible rfl))); (try simp only [Act.put, List.setIfInBounds_toArray, List.set_cons_zero, List.set_cons_succ]))
  refine mix_mid (o := _) (by (simp only [List.getElem?_toArray, List.getElem?_cons_succ, List.getElem?_cons_zero]); rfl) ?_
  go_wp2_with (at_make; (refine wpList_make_slc rfl _ _ 26 rfl 3 i0 _ 1 Tryz.underlying26 hi hz0 hz1 rfl _ _ _ _ 0 m.units.length rfl rfl rfl rfl (by omega) (by rw [hz2]; omega) (by unfold maxLen; omega) (Hd.drew H1) ?_); intro w1 H3; rw [madeCells_zero] at H3)
  refine mixQ_in ((show _ = some (.slice a m.units.length cap) from (H3.k t).ce 1 rfl)) ?_
  refine mix_end ?_
  have hn1 := Lib.hid ((H3.v (.slice a m.units.length cap)).slc_news)
  go_wp2_with (at_builtin; (refine wpList_append_fits_any_slc rfl _ _ 26 rfl 3 i0 1 Tryz.underlying26 hi hz1 _ 0 m.units.length [] rfl H3 a m.units.length _ (flat m.units) rfl hfl.out hn1.out.1 hn1.out.2 (flat_oneCell m.units) (by omega) ?_); intro w2 H4; rw [Nat.zero_add, List.nil_append] at H4)
  go_ret
  exact ⟨_, rfl, (hsh.out _ _ H4.d5).b2⟩
end
end Go.Proofs.YtogcikilphakmaaGreatDoor
