/-
  Merged texts of one proof: Code14.
-/
import Derived.Test.YtogcikilphakmaaGreatDoorG03
import Derived.Test.YtogcikilphakmaaGreatDoorG24

/-
  Package code: walk, Count, Steps. Every program.
-/
namespace Go.Proofs.YtogcikilphakmaaGreatDoor
open Go.RowKit Spl

theorem flat_zeros (n : Nat) : flat (zerosI n) = List.replicate n (.int .i64 0) := by
  induction n with
  | zero => rfl
  | succ n ih => unfold zerosI at *; rw [List.replicate_succ, flat_cons, ih]; rfl
theorem madeZeros (n : Nat) : (madeCells #[.int .i64 0] (n * 1)).toList = flat (zerosI n) := by
  rw [flat_zeros, Nat.mul_one]
  apply List.ext_getElem?
  intro i
  by_cases h : i < n <;> simp [madeCells, h, Nat.mod_one]
section
variable {w0 w : World} {R : List Pr} {t : TellM} {pv : Value}

set_option maxRecDepth 20000 in
set_option maxHeartbeats 4000000 in
theorem cdWalk {p : List OpM} (H : Hd w0 (TellP t [] :: R) w) (hp : Srd w0 R pv p) :
    Calls Tryz.prog 118 #[pv, t.v] w fun e w' => e = .returned (.tuple #[.int .i64 (if (checkM p).2 = 0 then (if (walkM p).over then 0 else (walkM p).out.length) else 0), .int .i64 (if (checkM p).2 = 0 then (if (walkM p).over then 5 else 0) else (checkM p).2)]) ∧
      Hd w0 (TellP t (if (checkM p).2 = 0 then (walkM p).out else []) :: R) w' := by
  obtain ⟨a, c, hv⟩ := hp.form
  have hp2 : Srd w0 (TellP t [] :: R) pv p := hp.of fun h => h.tail
  have hcheck := cdCheck H hp2
  by_cases hc : (checkM p).2 = 0
  · rw [if_pos hc, if_pos hc, if_pos hc]
    rw [hc] at hcheck
    have hlen := checkM_len hc
    obtain ⟨i0, hi, hz0, hz1, hz2⟩ := info_parts cdInfoInt
    replace hp := Lib.hid hp
    subst hv
    clear hp2
    have hcm := Lib.hid (show checkGo (p.drop 0) 0 0 = checkM p by unfold checkM; rw [if_neg (by omega)]; rfl)
    obtain ⟨tv, htv⟩ : ∃ tv, t.v = tv := ⟨_, rfl⟩
    have hT : tv = .nilFunc ∨ ∃ tb, tv = .func (.func 119) #[] #[.pointer (some ⟨tb, 0, none⟩)] := by
      rw [← htv]
      cases t with
      | nobody => exact .inl rfl
      | box tb => exact .inr ⟨tb, rfl⟩
    rw [htv]
    obtain ⟨WM, hWM⟩ : ∃ WM, walkM p = WM := ⟨_, rfl⟩
    rw [hWM]
    replace hWM := Lib.hid hWM
    rcases hT with rfl | ⟨tb, rfl⟩
    · go_enter Tryz.func118, Tryz.ntmps118
      go_wp2_with fail
      refine hcheck.mono ?_
      rintro e w1 ⟨rfl, H1⟩
      clear hcheck H
      go_wp2_with (at_make; (refine wpList_make_slc rfl _ _ 26 rfl 3 i0 _ 1 Tryz.underlying26 hi hz0 hz1 rfl _ _ _ _ p.length p.length rfl rfl rfl rfl (by omega) (by rw [hz2]; omega) (by unfold maxLen; omega) H1 ?_); intro w2 H2; replace H2 := (show Hd w0 (SlcC 3 (Enc.size Int) w1.heap.size p.length p.length (flat (zerosI p.length)) :: TellP t [] :: R) w2 by rw [← madeZeros]; exact H2))
      have HS : Hd w0 _ (w2.alloc (.cells #[.slice a p.length c, .int .i64 0, .bool false, .slice (some ⟨w1.heap.size, 0, none⟩) p.length p.length, .nilFunc] 279)) := (show Hd w0 (SlE 3 (.slice none 0 0) ([] : List Int) :: SlcC 3 (Enc.size Int) w1.heap.size p.length p.length (flat (zerosI p.length)) :: TellP t [] :: R) w2 from H2.slc_nil _ _).fol
      go_loopw [29, 9] (fun x ov wr => ∃ (k n : Nat) (e o : List Int) (vv : Value), k ≤ p.length ∧ x = .int .i64 k ∧ vv = ov ∧ EInv p k e o ∧ o.length = n ∧ n ≤ 4 ∧ checkGo (p.drop k) k n = checkM p ∧ endsGo (p.drop k) k e o = endsGo p 0 (zerosI p.length) [] ∧
        Hd w0 (SlE 3 vv o :: cel w2.heap.size 279 #[.slice a p.length c, .int .i64 0, .bool false, .slice (some ⟨w1.heap.size, 0, none⟩) p.length p.length, .nilFunc] :: SlEC 3 w1.heap.size p.length e :: TellP t [] :: R) wr) (fun x _ _ => p.length - (intOf x).toNat)
      case atStart => exact ⟨0, 0, zerosI p.length, [], _, Nat.zero_le _, rfl, rfl, EInv.start p, rfl, by omega, hcm.out, rfl, by
        have e1 : (zerosI p.length).length = p.length := by simp [zerosI]
        unfold SlE SlEC
        rw [e1]
        exact HS.re⟩
      case round =>
        clear HS H1 H2
        obtain ⟨k, n, e, o, vv, hk, rfl, rfl, hI, hon, hn4b, hC, hE, H3⟩ := hrel
        by_cases hlt : k < p.length
        · obtain ⟨x, hx⟩ : ∃ x, p[k]? = some x := ⟨p[k], List.getElem?_eq_getElem hlt⟩
          obtain ⟨g, c2, hv2, -, hcell⟩ := hp.out.at hx
          injection hv2 with hv3 hv4 hv5
          subst hv3; subst hv5
          have HR : Hd w0 R wr := H3.re
          have f0 := hcell HR 0 _ rfl
          have f1 := hcell HR 1 _ rfl
          have f2 := hcell HR 2 _ rfl
          have f3 := hcell HR 3 _ rfl
          simp only [Enc.size, Nat.add_zero] at f0 f1 f2 f3
          rw [drop_at hx] at hC hE
          have n1 : ¬ (k : Int) < 0 := by omega
          have n2 : (k : Int) < p.length := by omega
          have n3 : ¬ p.length ≤ k := by omega
          have g5 : IntKind.i64.wrap ((k : Int) + 1) = (k : Int) + 1 := IntWalk.i64_in _ (by omega)
          obtain ⟨xk, xr, xn, xv⟩ := x
          have HA : Hd w0 _ (wr.alloc (.cells #[.int .i64 xk, .int .i64 xr, .int .i64 xn, .int .i64 xv] 39)) := H3.fol
          rw [checkGo] at hC
          rw [endsGo] at hE
          dsimp only at f0 f1 f2 f3 hC hE
          have hfo : fieldsM ⟨xk, xr, xn, xv⟩ = true := by
            cases hf : fieldsM ⟨xk, xr, xn, xv⟩ with
            | true => rfl
            | false => rw [if_pos hf] at hC; rw [← hC] at hc; simp at hc
          rw [if_neg (by rw [hfo]; decide)] at hC
          clear hcell HR hv4
          by_cases h10 : xk = 10
          · subst h10
            rw [if_pos rfl] at hC hE
            have hn4 : ¬ n = 4 := fun e => by rw [if_pos e] at hC; rw [← hC] at hc; simp at hc
            rw [if_neg hn4] at hC
            have hI2 := Lib.hid (hI.open_ hx)
            have hS : ∀ {v' : Value} {L : List Pr} {w : World}, Hd w0 (Slc 3 1 v' (o.length + 1) (flat o ++ [.int .i64 k]) :: L) w → Hd w0 (SlE 3 v' (o ++ [(k : Int)]) :: L) w := by
              intro v' L w h
              have e1 : (o ++ [(k : Int)]).length = o.length + 1 := by simp
              have e2 : flat (o ++ [(k : Int)]) = flat o ++ [.int .i64 k] := by rw [flat_append, flat_one]; rfl
              unfold SlE
              rw [e1, e2]
              exact h
            replace hC := Lib.hid hC
            replace hE := Lib.hid hE
            have HP : Hd w0 _ ((wr.alloc (.cells #[.int .i64 10, .int .i64 xr, .int .i64 xn, .int .i64 xv] 39)).alloc (.cells #[.int .i64 k] 3)) := HA.fol
            clear hI hx H3
            go_wp2_with (at_builtin; (refine wpList_append_slc rfl _ _ 26 rfl 3 i0 _ 1 8 Tryz.underlying26 hi hz0 hz1 hz2 rfl _ _ _ rfl (HP.v vv) ⟨wr.heap.size + 1, 0, none⟩ 1 1 [.int .i64 k] rfl rfl (cel_news (HP.k (wr.heap.size + 1))) (by simp [Value.oneCell']) (by unfold maxLen; omega) (by omega) ?_); intro v' w4 H4; have HF := hS H4)
            go_roundw
            case rel => exact ⟨k + 1, n + 1, e, o ++ [(k : Int)], _, by omega, by simp, rfl, hI2.out, by rw [List.length_append, hon]; rfl, by omega, hC.out, hE.out, by exact HF.re⟩
            case measure => simp [intOf]; omega
          · rw [if_neg h10] at hC hE
            by_cases h11 : xk = 11
            · subst h11
              rw [if_pos rfl] at hC hE
              have hn0 : ¬ n = 0 := fun e => by rw [if_pos e] at hC; rw [← hC] at hc; simp at hc
              rw [if_neg hn0] at hC
              rcases nil_or_snoc o with rfl | ⟨l, y, rfl⟩
              · exact absurd hon.symm hn0
              obtain ⟨j, rfl, hjk⟩ := hI.op y (by simp)
              have hI2 := Lib.hid (hI.close hx h10)
              rw [List.getLast?_concat, List.dropLast_concat, Option.getD_some, Int.toNat_natCast] at hE
              have hl1 : (l ++ [(j : Int)]).length = l.length + 1 := by simp
              obtain ⟨g2, cap2, hov, HB⟩ := (HA.v vv).slc_at (by omega)
              rw [hl1] at hov HB
              subst hov
              have hcap := HB.slcC.2.1
              have hcm2 := HB.slcC.2.2.1
              have cg : (wr.alloc (.cells #[.int .i64 11, .int .i64 xr, .int .i64 xn, .int .i64 xv] 39)).cell? ⟨g2, l.length, none⟩ = some (.int .i64 j) := by
                have := HB.slcC_rd (flat_at (l := l ++ [(j : Int)]) (k := l.length) (x := (j : Int)) (by simp) (j := 0) (u := .int .i64 j) rfl)
                simpa [Enc.size] using this
              have hel := hI.len
              have c3 : (wr.alloc (.cells #[.int .i64 11, .int .i64 xr, .int .i64 xn, .int .i64 xv] 39)).cell? ⟨w2.heap.size, 3, none⟩ = some (.slice (some ⟨w1.heap.size, 0, none⟩) p.length p.length) := (HB.k w2.heap.size).ce 3 rfl
              have HE := HB.k w1.heap.size
              obtain ⟨ej, hej⟩ : ∃ y, e[j]? = some y := ⟨e[j]'(by omega), List.getElem?_eq_getElem _⟩
              have ce : (wr.alloc (.cells #[.int .i64 11, .int .i64 xr, .int .i64 xn, .int .i64 xv] 39)).cell? ⟨w1.heap.size, j, none⟩ = some (.int .i64 ej) := by
                have := HE.slcC_rd (flat_at hej (j := 0) rfl)
                simpa [Enc.size] using this
              have fe := HE.slcC_fr j
              have HS := HE.slcC_set (j := j) (by rw [flat_len]; simp [Enc.size]; omega) (.int .i64 k)
              have e3 : (flat e).set j (.int .i64 k) = flat (e.set j (k : Int)) := by
                have := flat_set (l := e) (k := j) (x := ej) (y := (k : Int)) hej (j := 0) (v := .int .i64 k) (by decide) rfl
                simpa [Enc.size] using this
              rw [e3] at HS
              have HC := HS.b2.slcC_cut (k := l.length) (c := cap2) (by omega) (by omega) (Nat.le_refl _)
              have e5 : (flat (l ++ [(j : Int)])).take (l.length * Enc.size Int) = flat l := by rw [flat_take, List.take_left' rfl]
              rw [e5] at HC
              have HD := HC.slc_mk.b2
              have e6 : e.length = (e.set j (k : Int)).length := by rw [List.length_set]
              rw [e6] at HD
              clear HC HS e5 e6
              have g6 : IntKind.i64.wrap (((l.length : Int) + 1) - 1) = (l.length : Int) := by rw [IntWalk.i64_in _ (by omega)]; omega
              have g7 : IntKind.i64.wrap (l.length : Int) = (l.length : Int) := IntWalk.i64_in _ (by omega)
              have m4 : (l.length : Int) < (l.length : Int) + 1 := by omega
              have m0 : ¬ (j : Int) < 0 := by omega
              have m1 : (j : Int) < p.length := by omega
              have m2 : ¬ p.length ≤ j := by omega
              have m3 : l.length ≤ cap2 := by omega
              have hll := Lib.hid (show l.length = n - 1 by rw [← hon]; simp)
              replace hC := Lib.hid hC
              replace hE := Lib.hid hE
              replace hon := Lib.hid hon
              clear hI hx H3 HB HE hcm2 e3 hl1 hej hel HA
              go_wp2_with fail
              refine wp_region_still_tail 12 (by kernel_rfl) (by kernel_rfl) ?_
              simp only [List.take_succ_cons, List.take_zero, List.drop_succ_cons, List.drop_zero, World.drew_eq]
              (repeat still_step)
              refine wpStill_nil ?_
              go_wp2_with fail
              go_roundw
              case rel => exact ⟨k + 1, n - 1, e.set j (k : Int), l, _, by omega, by simp, rfl, hI2.out, hll.out, by omega, hC.out, hE.out, by exact (Hd.re HD).drew⟩
              case measure => simp [intOf]; omega
            · rw [if_neg h11] at hC hE
              have hI2 := Lib.hid (hI.skip hx h10)
              replace hC := Lib.hid hC
              replace hE := Lib.hid hE
              clear hI hx H3
              go_wp2_with fail
              go_roundw
              case rel => exact ⟨k + 1, n, e, o, _, by omega, by simp, rfl, hI2.out, hon, hn4b, hC.out, hE.out, by exact HA.re⟩
              case measure => simp [intOf]; omega
        · obtain rfl : k = p.length := by omega
          rw [List.drop_length] at hC hE
          rw [checkGo] at hC
          rw [endsGo] at hE
          have hn0 : n = 0 := by
            rcases Nat.eq_zero_or_pos n with h | h
            · exact h
            · rw [if_pos h] at hC; rw [← hC] at hc; simp at hc
          subst hn0
          have ho := List.eq_nil_of_length_eq_zero hon
          subst ho
          have hEe : e = endsOf p := by unfold endsOf; rw [← hE]
          have hW : WOk p e := hI.ok hc
          subst hEe
          have HK : Hd w0 (WkP w2.heap.size (.slice a p.length c) (.slice (some ⟨w1.heap.size, 0, none⟩) p.length p.length) t ⟨[], false⟩ :: SlE 3 (.slice (some ⟨w1.heap.size, 0, none⟩) p.length p.length) (endsOf p) :: R) wr := by
            refine WkP.shut ?_
            dsimp only
            rw [htv]
            have H4 : Hd w0 (SlEC 3 w1.heap.size p.length (endsOf p) :: cel w2.heap.size 279 #[.slice a p.length c, .int .i64 0, .bool false, .slice (some ⟨w1.heap.size, 0, none⟩) p.length p.length, .nilFunc] :: TellP t [] :: R) wr := H3.re
            have H5 := H4.slc_mk
            rw [hW.len] at H5
            have H6 : Hd w0 (cel w2.heap.size 279 #[.slice a p.length c, .int .i64 0, .bool false, .slice (some ⟨w1.heap.size, 0, none⟩) p.length p.length, .nilFunc] :: TellP t [] :: Slc 3 (Enc.size Int) (.slice (some ⟨w1.heap.size, 0, none⟩) p.length p.length) p.length (flat (endsOf p)) :: R) wr := H5.re
            unfold SlE
            rw [hW.len]
            exact H6
          have hp3 : Srd w0 (SlE 3 (.slice (some ⟨w1.heap.size, 0, none⟩) p.length p.length) (endsOf p) :: R) (.slice a p.length c) p := hp.out.of fun h => h.tail
          have hpart := cdPart hW hp3 (Srd.slE HK.tail) (p.length + 1) 0 p.length (by omega) (Nat.zero_le _) (Nat.le_refl _) (by simp) HK
          have hle := partW_le (p := p) (ends := endsOf p) (p.length + 1) 0 p.length ⟨[], false⟩ (by simp)
          clear hC hE hI hW hp3 HK H3
          have hwm : WM = if (partW p (endsOf p) (p.length + 1) 0 p.length ⟨[], false⟩).1 then (stepW (partW p (endsOf p) (p.length + 1) 0 p.length ⟨[], false⟩).2 ⟨9, 0, 0, 0⟩).2 else (partW p (endsOf p) (p.length + 1) 0 p.length ⟨[], false⟩).2 := by rw [← hWM.out]; rfl
          obtain ⟨r, hr⟩ : ∃ r, partW p (endsOf p) (p.length + 1) 0 p.length ⟨[], false⟩ = r := ⟨_, rfl⟩
          rw [hr] at hpart hle hwm
          clear hr
          have n9 : ¬ (p.length : Int) < p.length := by omega
          rw [show ((0 : Nat) : Int) = 0 from rfl] at hpart
          cases hb : r.1 with
          | false =>
            rw [hb] at hpart hwm
            rw [if_neg (by decide)] at hwm
            subst hwm
            go_wp2_with fail
            refine hpart.mono ?_
            rintro e w5 ⟨rfl, H6⟩
            clear hpart
            have d1 := (show _ = some (.int .i64 r.2.out.length) from ((WkP.opened H6).k w2.heap.size).ce 1 rfl)
            have d2 := (show _ = some (.bool r.2.over) from ((WkP.opened H6).k w2.heap.size).ce 2 rfl)
            cases ho : r.2.over with
            | true =>
              rw [ho] at d2
              go_wp2_with fail
              all_goals (go_ret2; exact ⟨ret_ii (by first | rfl | (rw [ho]; rfl) | (simp_all; done)) (by first | rfl | (rw [ho]; rfl) | (simp_all; done)), (WkP.opened H6).tail.re⟩)
            | false =>
              rw [ho] at d2
              go_wp2_with fail
              all_goals (go_ret2; exact ⟨ret_ii (by first | rfl | (rw [ho]; rfl) | (simp_all; done)) (by first | rfl | (rw [ho]; rfl) | (simp_all; done)), (WkP.opened H6).tail.re⟩)
          | true =>
            rw [hb] at hpart hwm
            rw [if_pos rfl] at hwm
            obtain ⟨q, hq⟩ : ∃ q, stepW r.2 ⟨9, 0, 0, 0⟩ = q := ⟨_, rfl⟩
            rw [hq] at hwm
            subst hwm
            go_wp2_with fail
            refine hpart.mono ?_
            rintro e w5 ⟨rfl, H5⟩
            clear hpart
            have hstep := cdStep H5 hle ⟨9, 0, 0, 0⟩
            rw [hq] at hstep
            clear H5
            go_wp2_with fail
            refine hstep.mono ?_
            rintro e w6 ⟨rfl, H6⟩
            clear hstep
            have d1 := (show _ = some (.int .i64 q.2.out.length) from ((WkP.opened H6).k w2.heap.size).ce 1 rfl)
            have d2 := (show _ = some (.bool q.2.over) from ((WkP.opened H6).k w2.heap.size).ce 2 rfl)
            cases ho : q.2.over with
            | true =>
              rw [ho] at d2
              go_wp2_with fail
              all_goals (go_ret2; exact ⟨ret_ii (by first | rfl | (rw [ho]; rfl) | (simp_all; done)) (by first | rfl | (rw [ho]; rfl) | (simp_all; done)), (WkP.opened H6).tail.re⟩)
            | false =>
              rw [ho] at d2
              go_wp2_with fail
              all_goals (go_ret2; exact ⟨ret_ii (by first | rfl | (rw [ho]; rfl) | (simp_all; done)) (by first | rfl | (rw [ho]; rfl) | (simp_all; done)), (WkP.opened H6).tail.re⟩)
    · go_enter Tryz.func118, Tryz.ntmps118
      go_wp2_with fail
      refine hcheck.mono ?_
      rintro e w1 ⟨rfl, H1⟩
      clear hcheck H
      go_wp2_with (at_make; (refine wpList_make_slc rfl _ _ 26 rfl 3 i0 _ 1 Tryz.underlying26 hi hz0 hz1 rfl _ _ _ _ p.length p.length rfl rfl rfl rfl (by omega) (by rw [hz2]; omega) (by unfold maxLen; omega) H1 ?_); intro w2 H2; replace H2 := (show Hd w0 (SlcC 3 (Enc.size Int) w1.heap.size p.length p.length (flat (zerosI p.length)) :: TellP t [] :: R) w2 by rw [← madeZeros]; exact H2))
      have HS : Hd w0 _ (w2.alloc (.cells #[.slice a p.length c, .int .i64 0, .bool false, .slice (some ⟨w1.heap.size, 0, none⟩) p.length p.length, .func (.func 119) #[] #[.pointer (some ⟨tb, 0, none⟩)]] 279)) := (show Hd w0 (SlE 3 (.slice none 0 0) ([] : List Int) :: SlcC 3 (Enc.size Int) w1.heap.size p.length p.length (flat (zerosI p.length)) :: TellP t [] :: R) w2 from H2.slc_nil _ _).fol
      go_loopw [29, 9] (fun x ov wr => ∃ (k n : Nat) (e o : List Int) (vv : Value), k ≤ p.length ∧ x = .int .i64 k ∧ vv = ov ∧ EInv p k e o ∧ o.length = n ∧ n ≤ 4 ∧ checkGo (p.drop k) k n = checkM p ∧ endsGo (p.drop k) k e o = endsGo p 0 (zerosI p.length) [] ∧
        Hd w0 (SlE 3 vv o :: cel w2.heap.size 279 #[.slice a p.length c, .int .i64 0, .bool false, .slice (some ⟨w1.heap.size, 0, none⟩) p.length p.length, .func (.func 119) #[] #[.pointer (some ⟨tb, 0, none⟩)]] :: SlEC 3 w1.heap.size p.length e :: TellP t [] :: R) wr) (fun x _ _ => p.length - (intOf x).toNat)
      case atStart => exact ⟨0, 0, zerosI p.length, [], _, Nat.zero_le _, rfl, rfl, EInv.start p, rfl, by omega, hcm.out, rfl, by
        have e1 : (zerosI p.length).length = p.length := by simp [zerosI]
        unfold SlE SlEC
        rw [e1]
        exact HS.re⟩
      case round =>
        clear HS H1 H2
        obtain ⟨k, n, e, o, vv, hk, rfl, rfl, hI, hon, hn4b, hC, hE, H3⟩ := hrel
        by_cases hlt : k < p.length
        · obtain ⟨x, hx⟩ : ∃ x, p[k]? = some x := ⟨p[k], List.getElem?_eq_getElem hlt⟩
          obtain ⟨g, c2, hv2, -, hcell⟩ := hp.out.at hx
          injection hv2 with hv3 hv4 hv5
          subst hv3; subst hv5
          have HR : Hd w0 R wr := H3.re
          have f0 := hcell HR 0 _ rfl
          have f1 := hcell HR 1 _ rfl
          have f2 := hcell HR 2 _ rfl
          have f3 := hcell HR 3 _ rfl
          simp only [Enc.size, Nat.add_zero] at f0 f1 f2 f3
          rw [drop_at hx] at hC hE
          have n1 : ¬ (k : Int) < 0 := by omega
          have n2 : (k : Int) < p.length := by omega
          have n3 : ¬ p.length ≤ k := by omega
          have g5 : IntKind.i64.wrap ((k : Int) + 1) = (k : Int) + 1 := IntWalk.i64_in _ (by omega)
          obtain ⟨xk, xr, xn, xv⟩ := x
          have HA : Hd w0 _ (wr.alloc (.cells #[.int .i64 xk, .int .i64 xr, .int .i64 xn, .int .i64 xv] 39)) := H3.fol
          rw [checkGo] at hC
          rw [endsGo] at hE
          dsimp only at f0 f1 f2 f3 hC hE
          have hfo : fieldsM ⟨xk, xr, xn, xv⟩ = true := by
            cases hf : fieldsM ⟨xk, xr, xn, xv⟩ with
            | true => rfl
            | false => rw [if_pos hf] at hC; rw [← hC] at hc; simp at hc
          rw [if_neg (by rw [hfo]; decide)] at hC
          clear hcell HR hv4
          by_cases h10 : xk = 10
          · subst h10
            rw [if_pos rfl] at hC hE
            have hn4 : ¬ n = 4 := fun e => by rw [if_pos e] at hC; rw [← hC] at hc; simp at hc
            rw [if_neg hn4] at hC
            have hI2 := Lib.hid (hI.open_ hx)
            have hS : ∀ {v' : Value} {L : List Pr} {w : World}, Hd w0 (Slc 3 1 v' (o.length + 1) (flat o ++ [.int .i64 k]) :: L) w → Hd w0 (SlE 3 v' (o ++ [(k : Int)]) :: L) w := by
              intro v' L w h
              have e1 : (o ++ [(k : Int)]).length = o.length + 1 := by simp
              have e2 : flat (o ++ [(k : Int)]) = flat o ++ [.int .i64 k] := by rw [flat_append, flat_one]; rfl
              unfold SlE
              rw [e1, e2]
              exact h
            replace hC := Lib.hid hC
            replace hE := Lib.hid hE
            have HP : Hd w0 _ ((wr.alloc (.cells #[.int .i64 10, .int .i64 xr, .int .i64 xn, .int .i64 xv] 39)).alloc (.cells #[.int .i64 k] 3)) := HA.fol
            clear hI hx H3
            go_wp2_with (at_builtin; (refine wpList_append_slc rfl _ _ 26 rfl 3 i0 _ 1 8 Tryz.underlying26 hi hz0 hz1 hz2 rfl _ _ _ rfl (HP.v vv) ⟨wr.heap.size + 1, 0, none⟩ 1 1 [.int .i64 k] rfl rfl (cel_news (HP.k (wr.heap.size + 1))) (by simp [Value.oneCell']) (by unfold maxLen; omega) (by omega) ?_); intro v' w4 H4; have HF := hS H4)
            go_roundw
            case rel => exact ⟨k + 1, n + 1, e, o ++ [(k : Int)], _, by omega, by simp, rfl, hI2.out, by rw [List.length_append, hon]; rfl, by omega, hC.out, hE.out, by exact HF.re⟩
            case measure => simp [intOf]; omega
          · rw [if_neg h10] at hC hE
            by_cases h11 : xk = 11
            · subst h11
              rw [if_pos rfl] at hC hE
              have hn0 : ¬ n = 0 := fun e => by rw [if_pos e] at hC; rw [← hC] at hc; simp at hc
              rw [if_neg hn0] at hC
              rcases nil_or_snoc o with rfl | ⟨l, y, rfl⟩
              · exact absurd hon.symm hn0
              obtain ⟨j, rfl, hjk⟩ := hI.op y (by simp)
              have hI2 := Lib.hid (hI.close hx h10)
              rw [List.getLast?_concat, List.dropLast_concat, Option.getD_some, Int.toNat_natCast] at hE
              have hl1 : (l ++ [(j : Int)]).length = l.length + 1 := by simp
              obtain ⟨g2, cap2, hov, HB⟩ := (HA.v vv).slc_at (by omega)
              rw [hl1] at hov HB
              subst hov
              have hcap := HB.slcC.2.1
              have hcm2 := HB.slcC.2.2.1
              have cg : (wr.alloc (.cells #[.int .i64 11, .int .i64 xr, .int .i64 xn, .int .i64 xv] 39)).cell? ⟨g2, l.length, none⟩ = some (.int .i64 j) := by
                have := HB.slcC_rd (flat_at (l := l ++ [(j : Int)]) (k := l.length) (x := (j : Int)) (by simp) (j := 0) (u := .int .i64 j) rfl)
                simpa [Enc.size] using this
              have hel := hI.len
              have c3 : (wr.alloc (.cells #[.int .i64 11, .int .i64 xr, .int .i64 xn, .int .i64 xv] 39)).cell? ⟨w2.heap.size, 3, none⟩ = some (.slice (some ⟨w1.heap.size, 0, none⟩) p.length p.length) := (HB.k w2.heap.size).ce 3 rfl
              have HE := HB.k w1.heap.size
              obtain ⟨ej, hej⟩ : ∃ y, e[j]? = some y := ⟨e[j]'(by omega), List.getElem?_eq_getElem _⟩
              have ce : (wr.alloc (.cells #[.int .i64 11, .int .i64 xr, .int .i64 xn, .int .i64 xv] 39)).cell? ⟨w1.heap.size, j, none⟩ = some (.int .i64 ej) := by
                have := HE.slcC_rd (flat_at hej (j := 0) rfl)
                simpa [Enc.size] using this
              have fe := HE.slcC_fr j
              have HS := HE.slcC_set (j := j) (by rw [flat_len]; simp [Enc.size]; omega) (.int .i64 k)
              have e3 : (flat e).set j (.int .i64 k) = flat (e.set j (k : Int)) := by
                have := flat_set (l := e) (k := j) (x := ej) (y := (k : Int)) hej (j := 0) (v := .int .i64 k) (by decide) rfl
                simpa [Enc.size] using this
              rw [e3] at HS
              have HC := HS.b2.slcC_cut (k := l.length) (c := cap2) (by omega) (by omega) (Nat.le_refl _)
              have e5 : (flat (l ++ [(j : Int)])).take (l.length * Enc.size Int) = flat l := by rw [flat_take, List.take_left' rfl]
              rw [e5] at HC
              have HD := HC.slc_mk.b2
              have e6 : e.length = (e.set j (k : Int)).length := by rw [List.length_set]
              rw [e6] at HD
              clear HC HS e5 e6
              have g6 : IntKind.i64.wrap (((l.length : Int) + 1) - 1) = (l.length : Int) := by rw [IntWalk.i64_in _ (by omega)]; omega
              have g7 : IntKind.i64.wrap (l.length : Int) = (l.length : Int) := IntWalk.i64_in _ (by omega)
              have m4 : (l.length : Int) < (l.length : Int) + 1 := by omega
              have m0 : ¬ (j : Int) < 0 := by omega
              have m1 : (j : Int) < p.length := by omega
              have m2 : ¬ p.length ≤ j := by omega
              have m3 : l.length ≤ cap2 := by omega
              have hll := Lib.hid (show l.length = n - 1 by rw [← hon]; simp)
              replace hC := Lib.hid hC
              replace hE := Lib.hid hE
              replace hon := Lib.hid hon
              clear hI hx H3 HB HE hcm2 e3 hl1 hej hel HA
              go_wp2_with fail
              refine wp_region_still_tail 12 (by kernel_rfl) (by kernel_rfl) ?_
              simp only [List.take_succ_cons, List.take_zero, List.drop_succ_cons, List.drop_zero, World.drew_eq]
              (repeat still_step)
              refine wpStill_nil ?_
              go_wp2_with fail
              go_roundw
              case rel => exact ⟨k + 1, n - 1, e.set j (k : Int), l, _, by omega, by simp, rfl, hI2.out, hll.out, by omega, hC.out, hE.out, by exact (Hd.re HD).drew⟩
              case measure => simp [intOf]; omega
            · rw [if_neg h11] at hC hE
              have hI2 := Lib.hid (hI.skip hx h10)
              replace hC := Lib.hid hC
              replace hE := Lib.hid hE
              clear hI hx H3
              go_wp2_with fail
              go_roundw
              case rel => exact ⟨k + 1, n, e, o, _, by omega, by simp, rfl, hI2.out, hon, hn4b, hC.out, hE.out, by exact HA.re⟩
              case measure => simp [intOf]; omega
        · obtain rfl : k = p.length := by omega
          rw [List.drop_length] at hC hE
          rw [checkGo] at hC
          rw [endsGo] at hE
          have hn0 : n = 0 := by
            rcases Nat.eq_zero_or_pos n with h | h
            · exact h
            · rw [if_pos h] at hC; rw [← hC] at hc; simp at hc
          subst hn0
          have ho := List.eq_nil_of_length_eq_zero hon
          subst ho
          have hEe : e = endsOf p := by unfold endsOf; rw [← hE]
          have hW : WOk p e := hI.ok hc
          subst hEe
          have HK : Hd w0 (WkP w2.heap.size (.slice a p.length c) (.slice (some ⟨w1.heap.size, 0, none⟩) p.length p.length) t ⟨[], false⟩ :: SlE 3 (.slice (some ⟨w1.heap.size, 0, none⟩) p.length p.length) (endsOf p) :: R) wr := by
            refine WkP.shut ?_
            dsimp only
            rw [htv]
            have H4 : Hd w0 (SlEC 3 w1.heap.size p.length (endsOf p) :: cel w2.heap.size 279 #[.slice a p.length c, .int .i64 0, .bool false, .slice (some ⟨w1.heap.size, 0, none⟩) p.length p.length, .func (.func 119) #[] #[.pointer (some ⟨tb, 0, none⟩)]] :: TellP t [] :: R) wr := H3.re
            have H5 := H4.slc_mk
            rw [hW.len] at H5
            have H6 : Hd w0 (cel w2.heap.size 279 #[.slice a p.length c, .int .i64 0, .bool false, .slice (some ⟨w1.heap.size, 0, none⟩) p.length p.length, .func (.func 119) #[] #[.pointer (some ⟨tb, 0, none⟩)]] :: TellP t [] :: Slc 3 (Enc.size Int) (.slice (some ⟨w1.heap.size, 0, none⟩) p.length p.length) p.length (flat (endsOf p)) :: R) wr := H5.re
            unfold SlE
            rw [hW.len]
            exact H6
          have hp3 : Srd w0 (SlE 3 (.slice (some ⟨w1.heap.size, 0, none⟩) p.length p.length) (endsOf p) :: R) (.slice a p.length c) p := hp.out.of fun h => h.tail
          have hpart := cdPart hW hp3 (Srd.slE HK.tail) (p.length + 1) 0 p.length (by omega) (Nat.zero_le _) (Nat.le_refl _) (by simp) HK
          have hle := partW_le (p := p) (ends := endsOf p) (p.length + 1) 0 p.length ⟨[], false⟩ (by simp)
          clear hC hE hI hW hp3 HK H3
          have hwm : WM = if (partW p (endsOf p) (p.length + 1) 0 p.length ⟨[], false⟩).1 then (stepW (partW p (endsOf p) (p.length + 1) 0 p.length ⟨[], false⟩).2 ⟨9, 0, 0, 0⟩).2 else (partW p (endsOf p) (p.length + 1) 0 p.length ⟨[], false⟩).2 := by rw [← hWM.out]; rfl
          obtain ⟨r, hr⟩ : ∃ r, partW p (endsOf p) (p.length + 1) 0 p.length ⟨[], false⟩ = r := ⟨_, rfl⟩
          rw [hr] at hpart hle hwm
          clear hr
          have n9 : ¬ (p.length : Int) < p.length := by omega
          rw [show ((0 : Nat) : Int) = 0 from rfl] at hpart
          cases hb : r.1 with
          | false =>
            rw [hb] at hpart hwm
            rw [if_neg (by decide)] at hwm
            subst hwm
            go_wp2_with fail
            refine hpart.mono ?_
            rintro e w5 ⟨rfl, H6⟩
            clear hpart
            have d1 := (show _ = some (.int .i64 r.2.out.length) from ((WkP.opened H6).k w2.heap.size).ce 1 rfl)
            have d2 := (show _ = some (.bool r.2.over) from ((WkP.opened H6).k w2.heap.size).ce 2 rfl)
            cases ho : r.2.over with
            | true =>
              rw [ho] at d2
              go_wp2_with fail
              all_goals (go_ret2; exact ⟨ret_ii (by first | rfl | (rw [ho]; rfl) | (simp_all; done)) (by first | rfl | (rw [ho]; rfl) | (simp_all; done)), (WkP.opened H6).tail.re⟩)
            | false =>
              rw [ho] at d2
              go_wp2_with fail
              all_goals (go_ret2; exact ⟨ret_ii (by first | rfl | (rw [ho]; rfl) | (simp_all; done)) (by first | rfl | (rw [ho]; rfl) | (simp_all; done)), (WkP.opened H6).tail.re⟩)
          | true =>
            rw [hb] at hpart hwm
            rw [if_pos rfl] at hwm
            obtain ⟨q, hq⟩ : ∃ q, stepW r.2 ⟨9, 0, 0, 0⟩ = q := ⟨_, rfl⟩
            rw [hq] at hwm
            subst hwm
            go_wp2_with fail
            refine hpart.mono ?_
            rintro e w5 ⟨rfl, H5⟩
            clear hpart
            have hstep := cdStep H5 hle ⟨9, 0, 0, 0⟩
            rw [hq] at hstep
            clear H5
            go_wp2_with fail
            refine hstep.mono ?_
            rintro e w6 ⟨rfl, H6⟩
            clear hstep
            have d1 := (show _ = some (.int .i64 q.2.out.length) from ((WkP.opened H6).k w2.heap.size).ce 1 rfl)
            have d2 := (show _ = some (.bool q.2.over) from ((WkP.opened H6).k w2.heap.size).ce 2 rfl)
            cases ho : q.2.over with
            | true =>
              rw [ho] at d2
              go_wp2_with fail
              all_goals (go_ret2; exact ⟨ret_ii (by first | rfl | (rw [ho]; rfl) | (simp_all; done)) (by first | rfl | (rw [ho]; rfl) | (simp_all; done)), (WkP.opened H6).tail.re⟩)
            | false =>
              rw [ho] at d2
              go_wp2_with fail
              all_goals (go_ret2; exact ⟨ret_ii (by first | rfl | (rw [ho]; rfl) | (simp_all; done)) (by first | rfl | (rw [ho]; rfl) | (simp_all; done)), (WkP.opened H6).tail.re⟩)
  · rw [if_neg hc, if_neg hc, if_neg hc]
    obtain ⟨E, hE⟩ : ∃ E, (checkM p).2 = E := ⟨_, rfl⟩
    rw [hE] at hcheck hc ⊢
    subst hv
    clear hp hp2
    go_enter Tryz.func118, Tryz.ntmps118
    go_wp2_with fail
    refine hcheck.mono ?_
    rintro e w1 ⟨rfl, H1⟩
    go_wp2_with fail
    go_ret2
    exact ⟨rfl, H1⟩
end
end Go.Proofs.YtogcikilphakmaaGreatDoor
