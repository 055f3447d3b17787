/-
  Merged texts of one proof: Wi3, Co13, Dp5, Dp6.
-/
import Derived.Test.YtogcikilphakmaaGreatDoorG15
import Derived.Test.YtogcikilphakmaaGreatDoorG33
import Derived.Test.YtogcikilphakmaaGreatDoorG38
import Derived.Test.YtogcikilphakmaaGreatDoorG39
import Derived.Test.YtogcikilphakmaaGreatDoorG40
import Derived.Test.YtogcikilphakmaaGreatDoorG46

/-
  queue.Queue.List. Every queue.
-/
namespace Go.Proofs.YtogcikilphakmaaGreatDoor
open Go.RowKit Spl

attribute [local go_sem] Oper.semAt_some
def listQ (qs : List (List WaitM)) : List WaitM := (allL qs qs.length).map Prod.fst
theorem allL_len {qs : List (List WaitM)} (hn : ∀ l ∈ qs, l.length ≤ 1000) : ∀ k, (allL qs k).length ≤ 1000 * k
  | 0 => Nat.le_refl _
  | k + 1 => by
    have h := allL_len hn k
    show ((qs[k]?.getD []).map (fun x => (x, k + 1)) ++ allL qs k).length ≤ _
    rw [List.length_append, List.length_map]
    have h2 : (qs[k]?.getD []).length ≤ 1000 := by
      cases hq : qs[k]? with
      | none => simp
      | some l => exact hn l (List.mem_of_getElem? hq)
    omega
section
variable {w0 w : World} {R : List Pr} {b : Nat} {m : WqM}
set_option maxRecDepth 20000 in
theorem allLv {t o : Nat} (H : Hd w0 R w) : Calls Tryz.prog 105 #[.pointer (some ⟨t, o, none⟩)] w fun e w' => ∃ b, e = .returned (.func (.func 131) #[] #[.pointer (some ⟨b, 0, none⟩)]) ∧ Hd w0 (cel b 175 #[.pointer (some ⟨t, o, none⟩)] :: R) w' := by
  have HA : Hd w0 _ (w.alloc (.cells #[.pointer (some ⟨t, o, none⟩)] 175)) := H.fol
  go_enter Tryz.func105, Tryz.ntmps105
  go_wp2_with fail
  go_ret
  exact ⟨_, rfl, HA⟩
set_option maxRecDepth 100000 in
set_option maxHeartbeats 4000000 in
theorem wqList (H : Hd w0 (WqP b m :: R) w) (hm : m.Ok) :
    Calls Tryz.prog 70 #[.pointer (some ⟨b, 0, none⟩)] w fun e w' => ∃ v, e = .returned v ∧ Hd w0 (SlE 37 v (listQ m.qs) :: WqP b m :: R) w' := by
  refine (callsIn_wide (n := 5)).1 ?_
  obtain ⟨v, H1⟩ := WqP.opened H
  have hn : ∀ l ∈ m.qs, l.length ≤ 10000 := fun l hl => by have := hm.l l hl; omega
  have h32 : m.qs.length ≤ 32 := by have := hm.q; omega
  obtain ⟨X, hX⟩ : ∃ X : Array Value, (v :: m.act.map (Value.int .i64)).toArray = X := ⟨_, rfl⟩
  have hX0 : X[0]? = some v := by rw [← hX]; rfl
  rw [hX] at H1
  have hlen := levLen (o := 0) H1 hX0 hn h32
  have hle := lenQ_le hn m.qs.length (Nat.le_refl _)
  obtain ⟨CP, hCP⟩ : ∃ CP, lenQ m.qs m.qs.length = CP := ⟨_, rfl⟩
  rw [hCP] at hlen hle
  replace hX := Lib.hid hX
  replace hCP := Lib.hid hCP
  obtain ⟨i0, hi, hz0, hz1, hz2⟩ := info_parts qInfo_wait
  have hcp : CP ≤ 320000 := by omega
  refine callsIn_of_wp_marks Tryz.func70 rfl trivial ?_ rfl
  simp only [Tryz.ntmps70, List.size_toArray, List.length_cons, List.length_nil, Nat.reduceAdd, Nat.reduceSub, Array.replicate_succ, Array.replicate_zero, List.push_toArray, List.append_toArray, List.nil_append, List.cons_append]
  refine wpIn_wide.2 ?_
  clear H hle
  go_wp2_with fail
  refine hlen.mono ?_
  rintro e w1 ⟨rfl, dn, rfl⟩
  clear hlen
  have H2 : Hd w0 _ (w.drewN dn) := H1.drewN dn
  go_wp2_with (at_make; (refine wpList_make_slc rfl _ _ 45 rfl 37 i0 _ 3 Tryz.underlying45 hi hz0 hz1 rfl _ _ _ _ 0 CP rfl rfl rfl rfl (by omega) (by rw [hz2]; omega) (by unfold maxLen; omega) H2 ?_); intro w2 H5)
  obtain ⟨rb, hrb⟩ : ∃ rb, w2.heap.size = rb := ⟨_, rfl⟩
  have H6 : Hd w0 _ (w2.alloc (.cells #[.slice (some ⟨w.heap.size, 0, none⟩) 0 CP] 45)) := H5.fol
  rw [hrb] at H6 ⊢
  rw [madeCells_zero] at H6
  have hsz : (w.drewN dn).heap.size = w.heap.size := rfl
  rw [hsz] at H6
  have hal := allLv (t := b) (o := 0) H6
  refine hal.mono ?_
  rintro e w3 ⟨bl, rfl, H7⟩
  clear hal H5
  go_wp2_with fail
  have H8 : Hd w0 (SlcC 37 3 w.heap.size 0 CP [] :: cel rb 45 #[.slice (some ⟨w.heap.size, 0, none⟩) 0 CP] :: cel bl 175 #[.pointer (some ⟨b, 0, none⟩)] :: cel b 183 X :: Lev v m.qs :: R) w3 := H7.re
  have H9 : Hd w0 (SlE 37 (.slice (some ⟨w.heap.size, 0, none⟩) 0 CP) ([] : List WaitM) :: _) w3 := H8.slc_mk
  have H10 : Hd w0 (cel rb 45 #[.slice (some ⟨w.heap.size, 0, none⟩) 0 CP] :: SlE 37 (.slice (some ⟨w.heap.size, 0, none⟩) 0 CP) ([] : List WaitM) :: cel bl 175 #[.pointer (some ⟨b, 0, none⟩)] :: cel b 183 X :: Lev v m.qs :: R) w3 := H9.re
  have H11 : Hd w0 (all [ex fun u : Value => all [cel rb 45 #[u], SlE 37 u (((allL m.qs m.qs.length).take 0).map Prod.fst)]] :: cel bl 175 #[.pointer (some ⟨b, 0, none⟩)] :: cel b 183 X :: Lev v m.qs :: R) w3 := by
    have h := Hd.into (S := fun u : Value => all [cel rb 45 #[u], SlE 37 u (((allL m.qs m.qs.length).take 0).map Prod.fst)]) (.slice (some ⟨w.heap.size, 0, none⟩) 0 CP) (Hd.pack (L := [_, _]) H10)
    exact Hd.pack (L := [_]) h
  refine wpIn_wide (n := 5).1 ?_
  refine wpIn_rangeFunc_hd2 (gf := 131) (lb := #[.pointer (some ⟨bl, 0, none⟩)]) rfl (enters_of Tryz.func131 (by kernel_rfl) rfl) (encs := encW) (fun _ => rfl) (fun i => [ex fun u : Value => all [cel rb 45 #[u], SlE 37 u (((allL m.qs m.qs.length).take i).map Prod.fst)]]) H11 (seqLev hX0 hn h32) (fun i x a' Z => ∃ p : Nat, a' = { tmps := #[.pointer (some ⟨b, 0, none⟩), undef, .slice none 0 0, .pointer (some ⟨rb, 0, none⟩), undef, .pointer (some ⟨p, 0, none⟩), .pointer (some ⟨b, 0, none⟩), .pointer (some ⟨b, 0, none⟩), .pointer (some ⟨b, 0, none⟩), .int .i64 CP, .slice (some ⟨w.heap.size, 0, none⟩) 0 CP, .pointer (some ⟨b, 0, none⟩), .pointer (some ⟨b, 0, none⟩), .pointer (some ⟨b, 0, none⟩), .func (.func 131) #[] #[.pointer (some ⟨bl, 0, none⟩)], .int .i64 x.2, .agg (waitA x.1), undef, undef, undef, undef, undef], defers := [] } ∧ Z = [cel p 37 (waitA x.1), ex fun u : Value => all [cel rb 45 #[u], SlE 37 u (((allL m.qs m.qs.length).take i).map Prod.fst)]]) ?assign ?body ?done
  case assign =>
    intro lq2 i x X2 W2 hx K
    have K1 : Hd w0 _ (W2.alloc (.cells (waitA x.1) 37)) := K.fol
    gi_wp2
    exact ⟨_, ⟨_, rfl, rfl⟩, K1⟩
  case body =>
    rintro lq2 i x X2 Z a' W2 hx ⟨p, rfl, rfl⟩ HW
    have HW1 : Hd w0 (cel p 37 (waitA x.1) :: (ex fun u : Value => all [cel rb 45 #[u], SlE 37 u (((allL m.qs m.qs.length).take i).map Prod.fst)]) :: X2) W2 := HW
    obtain ⟨u, HW2⟩ := HW1.b2.out
    have HW3 : Hd w0 (cel rb 45 #[u] :: SlE 37 u (((allL m.qs m.qs.length).take i).map Prod.fst) :: cel p 37 (waitA x.1) :: X2) W2 := HW2.flat
    have htk : ((allL m.qs m.qs.length).take (i + 1)).map Prod.fst = ((allL m.qs m.qs.length).take i).map Prod.fst ++ [x.1] := by
      rw [List.take_add_one, hx, List.map_append]; rfl
    have hbd := allL_len hm.l m.qs.length
    obtain ⟨L, hL⟩ : ∃ L, ((allL m.qs m.qs.length).take i).map Prod.fst = L := ⟨_, rfl⟩
    have hLl : L.length ≤ 40000 := by rw [← hL, List.length_map, List.length_take]; omega
    rw [hL] at HW3 htk
    obtain ⟨a0, c0, rfl, -, -, -, -⟩ := HW3.b2.slc_form
    have s0 := (show _ = some _ from (HW3.k rb).ce 0 rfl)
    have hfp := (HW3.k p).fact1
    simp only [Nat.reduceAdd] at hfp
    go_split_ands
    have HP : Hd w0 _ (W2.alloc (.cells (waitA x.1) 37)) := HW3.fol
    have hP := Lib.hid HP
    replace htk := Lib.hid htk
    clear HW HW1 HW2 HW3 hL hx hbd
    gi_wp2_with (gi_at_builtin; refine wpListIn_append_slc rfl _ _ 45 rfl 37 i0 _ 3 24 Tryz.underlying45 hi hz0 hz1 hz2 rfl _ _ _ rfl (show Hd w0 (Slc 37 3 (.slice a0 L.length c0) L.length (flat L) :: _) _ from hP.out.b3) ⟨W2.heap.size, 0, none⟩ 1 1 [.int .i64 x.1.job, .int .i64 x.1.task, .int .i64 x.1.level] rfl rfl (cel_news hP.out) (by simp [Value.oneCell']) (by unfold maxLen; omega) (by omega) ?_; intro v' w5 H20; have H21 := slE_snocW H20; obtain ⟨L', hL'⟩ : ∃ L', L ++ [x.1] = L' := ⟨_, rfl⟩; rw [hL'] at H21; obtain ⟨a1, c1, rfl, -, -, -, -⟩ := H21.slc_form; replace hL' := Lib.hid hL'; have d0 := (show _ = some _ from (H21.k rb).ce 0 rfl); have f0 := (H21.k rb).fr 0; clear H20)
    have H22 : Hd w0 (cel rb 45 #[.slice a1 L'.length c1] :: SlE 37 (.slice a1 L'.length c1) L' :: X2) (w5.setCell ⟨rb, 0, none⟩ (.slice a1 L'.length c1)) := Hd.fin H21
    show Hd w0 ((ex fun u : Value => all [cel rb 45 #[u], SlE 37 u (((allL m.qs m.qs.length).take (i + 1)).map Prod.fst)]) :: X2) _
    rw [htk.out, hL'.out]
    exact Hd.into (S := fun u : Value => all [cel rb 45 #[u], SlE 37 u L']) _ (Hd.pack (L := [_, _]) H22)
  case done =>
    intro D W4 K4
    rw [List.take_length] at K4
    have K5 : Hd w0 ((ex fun u : Value => all [cel rb 45 #[u], SlE 37 u ((allL m.qs m.qs.length).map Prod.fst)]) :: pt D (.deferred (some [])) :: cel bl 175 #[.pointer (some ⟨b, 0, none⟩)] :: cel b 183 X :: Lev v m.qs :: R) W4 := K4
    obtain ⟨u, K6⟩ := K5.out
    have K7 : Hd w0 (cel rb 45 #[u] :: SlE 37 u ((allL m.qs m.qs.length).map Prod.fst) :: pt D (.deferred (some [])) :: cel bl 175 #[.pointer (some ⟨b, 0, none⟩)] :: cel b 183 X :: Lev v m.qs :: R) W4 := K6.flat
    have e0 := (show _ = some u from (K7.k rb).ce 0 rfl)
    (try dsimp only)
    go_wp2_with fail
    have K8 : Hd w0 (pt D (.deferred (some [])) :: cel b 183 X :: Lev v m.qs :: SlE 37 u (listQ m.qs) :: R) W4 := (show Hd w0 (_ :: SlE 37 u (listQ m.qs) :: _) W4 from K7).re
    refine leaves_mark K8 (fun W HW => ⟨_, results_tmp rfl _ _ _, u, rfl, ?_⟩)
    have K9 : Hd w0 (cel b 183 (v :: m.act.map (Value.int .i64)).toArray :: Lev v m.qs :: SlE 37 u (listQ m.qs) :: R) W := by rw [hX.out]; exact HW
    exact (WqP.shut K9).b2
end
end Go.Proofs.YtogcikilphakmaaGreatDoor

/-
  core.Look.Jobs. Every list.
-/
namespace Go.Proofs.YtogcikilphakmaaGreatDoor
open Go.RowKit Spl

attribute [local go_sem] Oper.semAt_some
theorem actInfo : (Tryz.prog.info? 160).map (fun i => (i.zero, i.size, i.bytes)) = some (some (.agg #[.int .i64 0, .int .i64 0, .int .i64 0, .int .i64 0]), 4, 32) := by kernel_rfl
section
variable {w0 w : World} {R : List Pr} {S : Hp} {x : CoV} {m : CoM}
theorem slE_snocA {v : Value} {L : List ActM} {x : ActM} (h : Hd w0 (Slc 160 4 v (L.length + 1) (flat L ++ [.int .i64 x.job, .int .i64 x.task, .int .i64 x.level, .int .i64 x.at_]) :: R) w) : Hd w0 (SlE 160 v (L ++ [x]) :: R) w := by
  have e1 : (L ++ [x]).length = L.length + 1 := by simp
  have e2 : flat (L ++ [x]) = flat L ++ [.int .i64 x.job, .int .i64 x.task, .int .i64 x.level, .int .i64 x.at_] := by rw [flat_append, flat_one]; rfl
  unfold SlE
  rw [e1, e2]
  exact h
def jobsL (l : List StM) (k : Nat) : List ActM := (l.take k).map StM.act
set_option maxRecDepth 20000 in
set_option maxHeartbeats 1600000 in
theorem lkJobs (H : Hd w0 (LkP x S m :: R) w) (hn : m.jobs.length ≤ 1000) : Calls Tryz.prog 69 #[.pointer (some ⟨x.l, 0, none⟩)] w fun e w' => ∃ v, e = .returned v ∧ Hd w0 (SlE 160 v (m.jobs.map StM.act) :: LkP x S m :: R) w' := by
  obtain ⟨vj, bs, hb, H1⟩ := LkP.opened H
  obtain ⟨l, t, a, u, ce⟩ := x
  have hl := stkLen_started (o := 4) ((H1.v vj).k l) rfl
  obtain ⟨i0, hi, hz0, hz1, hz2⟩ := info_parts actInfo
  rw [List.length_map] at hl
  obtain ⟨N, hN⟩ : ∃ N, bs.length = N := ⟨_, rfl⟩
  rw [hN] at hl hb
  have hJ : m.jobs.length = N := hb.symm
  have hN1 : N ≤ 1000 := by omega
  replace hb := Lib.hid hb
  replace hN := Lib.hid hN
  replace hJ := Lib.hid hJ
  clear H hn
  go_enter Tryz.func69, Tryz.ntmps69
  go_wp2_with fail
  refine hl.mono ?_
  rintro e w1 ⟨rfl, rfl⟩
  clear hl
  go_wp2_with (at_make; (refine wpList_make_slc rfl _ _ 166 rfl 160 i0 _ 4 Tryz.underlying166 hi hz0 hz1 rfl _ _ _ _ 0 N rfl rfl rfl rfl (by omega) (by rw [hz2]; omega) (by unfold maxLen; omega) H1 ?_); intro w2 H2)
  rw [madeCells_zero] at H2
  have hc := stkList_started (o := 4) ((H2.v vj).k l) rfl (by rw [List.length_map, hN.out]; omega)
  rw [List.length_map, hN.out] at hc
  refine hc.mono ?_
  rintro e w3 ⟨g, rfl, H3⟩
  clear hc
  have H4 : Hd w0 (SlcC 160 4 w.heap.size 0 N [] :: all (List.zipWith (stB S) bs m.jobs) :: SlcC 158 1 g N N (flat (bs.map Ptr.mk)) :: cel l 94 (lookRow ⟨l, t, a, u, ce⟩ vj) :: ArP a m.ar :: UnP u m.un :: CeP ce m.ce :: SlE 158 vj (bs.map Ptr.mk) :: R) w3 := by
    have h : Hd w0 (SlcC 158 (Enc.size Ptr) g (bs.map Ptr.mk).length N (flat (bs.map Ptr.mk)) :: _) w3 := H3
    rw [List.length_map, hN.out] at h
    have h2 : Hd w0 (SlcC 158 1 g N N (flat (bs.map Ptr.mk)) :: _) w3 := h
    exact h2.re
  have H5 : Hd w0 (SlE 160 (.slice (some ⟨w.heap.size, 0, none⟩) 0 N) (jobsL m.jobs 0) :: _) w3 := H4.slc_mk
  obtain ⟨v0, hv0⟩ : ∃ v0, Value.slice (some ⟨w.heap.size, 0, none⟩) 0 N = v0 := ⟨_, rfl⟩
  rw [hv0] at H5 ⊢
  clear H1 H2 H3 H4 hv0
  go_wp2_with fail
  go_loopw [3, 16] (fun v y wr => ∃ (k : Nat) (v' : Value), k ≤ N ∧ y = .int .i64 k ∧ v' = v ∧ Hd w0 (SlE 160 v' (jobsL m.jobs k) :: all (List.zipWith (stB S) bs m.jobs) :: SlcC 158 1 g N N (flat (bs.map Ptr.mk)) :: cel l 94 (lookRow ⟨l, t, a, u, ce⟩ vj) :: ArP a m.ar :: UnP u m.un :: CeP ce m.ce :: SlE 158 vj (bs.map Ptr.mk) :: R) wr) (fun _ y _ => N - (intOf y).toNat)
  case atStart => exact ⟨0, _, Nat.zero_le _, rfl, rfl, H5⟩
  case round =>
    obtain ⟨k, v, hk, rfl, rfl, H6⟩ := hrel
    clear H5
    by_cases hlt : k < N
    · obtain ⟨j, hj⟩ : ∃ j, m.jobs[k]? = some j := ⟨m.jobs[k]'(by rw [hJ.out]; exact hlt), List.getElem?_eq_getElem _⟩
      obtain ⟨b, hbk⟩ : ∃ b, bs[k]? = some b := ⟨bs[k]'(by rw [hN.out]; exact hlt), List.getElem?_eq_getElem _⟩
      have e1 : jobsL m.jobs (k + 1) = jobsL m.jobs k ++ [j.act] := by unfold jobsL; rw [List.take_add_one, hj, List.map_append]; rfl
      have hLl : (jobsL m.jobs k).length = k := by unfold jobsL; rw [List.length_map, List.length_take, hJ.out]; omega
      obtain ⟨L, hL⟩ : ∃ L, jobsL m.jobs k = L := ⟨_, rfl⟩
      rw [hL] at H6 e1 hLl
      obtain ⟨vs, H7⟩ := (H6.b2.row_nth hbk hj).out
      have H8 : Hd w0 (fact (RoE S 39 vs j.steps) :: cel b 162 (stRow j vs) :: _) wr := H7.flat
      obtain ⟨d0, d1, d2, d3⟩ : wr.cell? ⟨b, 0, none⟩ = some (.int .i64 j.job) ∧ wr.cell? ⟨b, 1, none⟩ = some (.int .i64 j.task) ∧ wr.cell? ⟨b, 2, none⟩ = some (.int .i64 j.level) ∧ wr.cell? ⟨b, 3, none⟩ = some (.int .i64 j.pos) := ⟨(H8.k b).ce 0 rfl, (H8.k b).ce 1 rfl, (H8.k b).ce 2 rfl, (H8.k b).ce 3 rfl⟩
      have d4 : wr.cell? ⟨g, k, none⟩ = some (.pointer (some ⟨b, 0, none⟩)) := by
        have h1 : (bs.map Ptr.mk)[k]? = some ⟨b⟩ := by simp [hbk]
        have := (show Hd w0 (SlcC 158 1 g N N (flat (bs.map Ptr.mk)) :: R) wr from H6.re).slcC_rd (flat_at h1 (j := 0) rfl)
        simpa only [Enc.size, Nat.mul_one, Nat.add_zero] using this
      have n1 : (k : Int) < N := by omega
      have n2 : ¬ (k : Int) < 0 := by omega
      have n3 : ¬ N ≤ k := by omega
      have g6 : IntKind.i64.wrap ((k : Int) + 1) = (k : Int) + 1 := IntWalk.i64_in _ (by omega)
      have HP : Hd w0 _ (wr.alloc (.cells #[.int .i64 j.job, .int .i64 j.task, .int .i64 j.level, .int .i64 j.pos] 160)) := H6.fol
      have hP := Lib.hid HP
      replace e1 := Lib.hid e1
      replace hLl := Lib.hid hLl
      clear HP H6 H7 H8 hj hL
      go_wp2_with (at_builtin; refine wpList_append_slc rfl _ _ 166 rfl 160 i0 _ 4 32 Tryz.underlying166 hi hz0 hz1 hz2 rfl _ _ _ rfl (show Hd w0 (Slc 160 4 v L.length (flat L) :: _) _ from hP.out.v v) ⟨wr.heap.size, 0, none⟩ 1 1 [.int .i64 j.job, .int .i64 j.task, .int .i64 j.level, .int .i64 j.pos] rfl rfl (cel_news (hP.out.k wr.heap.size)) (by simp [Value.oneCell']) (by rw [hLl.out]; unfold maxLen; omega) (by rw [hLl.out]; omega) ?_; intro v' w5 H20; have H21 := slE_snocA (x := j.act) H20)
      go_roundw
      case rel => exact ⟨k + 1, _, by omega, by simp, rfl, by rw [e1.out]; exact H21.re⟩
      case measure => simp [intOf]; omega
    · obtain rfl : k = N := by omega
      have e1 : jobsL m.jobs k = m.jobs.map StM.act := by unfold jobsL; rw [List.take_of_length_le (by rw [hJ.out]; omega)]
      rw [e1] at H6
      have h6 := Lib.hid H6
      clear H6 e1
      go_wp2_with fail
      go_ret
      refine ⟨_, rfl, ?_⟩
      have H9 : Hd w0 (cel l 94 (lookRow ⟨l, t, a, u, ce⟩ vj) :: ArP a m.ar :: UnP u m.un :: CeP ce m.ce :: SlE 158 vj (bs.map Ptr.mk) :: all (List.zipWith (stB S) bs m.jobs) :: SlE 160 v (m.jobs.map StM.act) :: R) _ := h6.out.re
      exact (LkP.shut (x := ⟨l, t, a, u, ce⟩) (vj := vj) (bs := bs) H9 (by rw [hN.out, hJ.out])).b2
end
end Go.Proofs.YtogcikilphakmaaGreatDoor

/-
  dispatch.Left$1: the steps that are left of one job. Every table.
-/
namespace Go.Proofs.YtogcikilphakmaaGreatDoor
open Go.RowKit Spl

attribute [local go_sem] Oper.semAt_some
section
variable {w0 w : World} {R : List Pr} {S : Hp} {tk : TkM}
abbrev dRow (l t c q : Nat) (n : Int) : Array Value := #[.pointer (some ⟨l, 0, none⟩), .pointer (some ⟨t, 0, none⟩), .pointer (some ⟨c, 0, none⟩), .pointer (some ⟨q, 0, none⟩), .int .i64 n]
set_option maxRecDepth 20000 in
theorem dpLeft1 {bx bs d l t c q i : Nat} {n : Int} {r : RowM} {s p : Int} (H : Hd w0 (cel bs 3 #[.int .i64 s] :: cel bx 51 #[.pointer (some ⟨d, 0, none⟩)] :: cel d 78 (dRow l t c q n) :: TkP t tk S :: ro S :: R) w) (ht : tk.Ok) (hr : tk.rows[i]? = some r)
    (h1 : 0 ≤ p) (h2 : p ≤ r.steps.length) (h3 : 0 ≤ s) (h4 : s ≤ 1000000000) :
    Calls Tryz.prog 67 #[.int .i64 i, .int .i64 p, .pointer (some ⟨bx, 0, none⟩), .pointer (some ⟨bs, 0, none⟩)] w fun e w' => e = .returned (.tuple #[]) ∧ Hd w0 (cel bs 3 #[.int .i64 (s + (r.steps.length - p))] :: cel bx 51 #[.pointer (some ⟨d, 0, none⟩)] :: cel d 78 (dRow l t c q n) :: TkP t tk S :: ro S :: R) w' := by
  have hst := ht.st r (List.mem_of_getElem? hr)
  have hget := tkSteps (show Hd w0 (TkP t tk S :: ro S :: cel bs 3 #[.int .i64 s] :: cel bx 51 #[.pointer (some ⟨d, 0, none⟩)] :: cel d 78 (dRow l t c q n) :: R) w from H.re) ht hr
  have k0 := (show _ = some (Value.pointer (some ⟨d, 0, none⟩)) from (H.k bx).ce 0 rfl)
  have k1 := (show _ = some (Value.pointer (some ⟨t, 0, none⟩)) from (H.k d).ce 1 rfl)
  obtain ⟨M, hM⟩ : ∃ M, r.steps.length = M := ⟨_, rfl⟩
  rw [hM] at h2 hst ⊢
  have g5 : IntKind.i64.wrap ((M : Int) - p) = (M : Int) - p := IntWalk.i64_in _ (by omega)
  have g6 : IntKind.i64.wrap (s + ((M : Int) - p)) = s + ((M : Int) - p) := IntWalk.i64_in _ (by omega)
  replace hM := Lib.hid hM
  clear H
  go_enter Tryz.func67, Tryz.ntmps67
  go_wp2_with fail
  refine hget.mono ?_
  rintro e w1 ⟨v, rfl, H2⟩
  clear hget k0 k1
  obtain ⟨a1, c1, rfl, -, -, -, -⟩ := H2.slc_form
  have k2 := (show _ = some (Value.int .i64 s) from (H2.k bs).ce 0 rfl)
  have f2 := (H2.k bs).fr 0
  have h5 := Lib.hid H2
  rw [hM.out]
  clear H2
  go_wp2_with fail
  go_end0
  exact ⟨rfl, Hd.fin h5.out.tail⟩
end
end Go.Proofs.YtogcikilphakmaaGreatDoor

/-
  dispatch.Left: the steps that are left. Every dispatcher.
-/
namespace Go.Proofs.YtogcikilphakmaaGreatDoor
open Go.RowKit Spl

attribute [local go_sem] Oper.semAt_some
def leftOf (tk : TkM) (task at_ : Int) : Int := match tk.rows[task.toNat]? with
  | some r => r.steps.length - at_
  | none => 0
def LOk (tk : TkM) (task at_ : Int) : Prop := 0 ≤ task ∧ ∃ r, tk.rows[task.toNat]? = some r ∧ 0 ≤ at_ ∧ at_ ≤ r.steps.length
def leftA (tk : TkM) (l : List ActM) : Int := (l.map fun x => leftOf tk x.task x.at_).sum
def leftW (tk : TkM) (l : List WaitM) : Int := (l.map fun x => leftOf tk x.task 0).sum
def DpM.left (tk : TkM) (m : DpM) : Int := leftA tk (m.co.jobs.map StM.act) + leftW tk (listQ m.wq.qs)
theorem LOk.le {tk : TkM} (ht : tk.Ok) {t p : Int} (h : LOk tk t p) : 0 ≤ leftOf tk t p ∧ leftOf tk t p ≤ 4096 := by
  obtain ⟨_, r, hr, h1, h2⟩ := h
  have := ht.st r (List.mem_of_getElem? hr)
  unfold leftOf
  rw [hr]
  dsimp only
  omega
theorem sum_le {α : Type} (f : α → Int) : ∀ {l : List α}, (∀ x ∈ l, 0 ≤ f x ∧ f x ≤ 4096) → 0 ≤ (l.map f).sum ∧ (l.map f).sum ≤ 4096 * l.length
  | [], _ => ⟨by simp, by simp⟩
  | x :: l, h => by
    have h1 := h x (by simp)
    have h2 := sum_le f (l := l) (fun y hy => h y (by simp [hy]))
    simp only [List.map_cons, List.sum_cons, List.length_cons]
    omega
theorem leftA_le {tk : TkM} (ht : tk.Ok) {l : List ActM} (h : ∀ x ∈ l, LOk tk x.task x.at_) (k : Nat) : 0 ≤ leftA tk (l.take k) ∧ leftA tk (l.take k) ≤ 4096 * l.length := by
  have := sum_le (fun x : ActM => leftOf tk x.task x.at_) (l := l.take k) (fun x hx => (h x (List.mem_of_mem_take hx)).le ht)
  have h2 : (l.take k).length ≤ l.length := by rw [List.length_take]; omega
  unfold leftA
  omega
theorem leftW_le {tk : TkM} (ht : tk.Ok) {l : List WaitM} (h : ∀ x ∈ l, LOk tk x.task 0) (k : Nat) : 0 ≤ leftW tk (l.take k) ∧ leftW tk (l.take k) ≤ 4096 * l.length := by
  have := sum_le (fun x : WaitM => leftOf tk x.task 0) (l := l.take k) (fun x hx => (h x (List.mem_of_mem_take hx)).le ht)
  have h2 : (l.take k).length ≤ l.length := by rw [List.length_take]; omega
  unfold leftW
  omega
theorem leftA_succ {tk : TkM} {l : List ActM} {k : Nat} {x : ActM} (hx : l[k]? = some x) : leftA tk (l.take (k + 1)) = leftA tk (l.take k) + leftOf tk x.task x.at_ := by
  unfold leftA
  rw [List.take_add_one, hx, List.map_append, List.sum_append]
  simp
theorem leftW_succ {tk : TkM} {l : List WaitM} {k : Nat} {x : WaitM} (hx : l[k]? = some x) : leftW tk (l.take (k + 1)) = leftW tk (l.take k) + leftOf tk x.task 0 := by
  unfold leftW
  rw [List.take_add_one, hx, List.map_append, List.sum_append]
  simp
theorem leftOf_some {tk : TkM} {i : Nat} {r : RowM} (hr : tk.rows[i]? = some r) (p : Int) : leftOf tk i p = r.steps.length - p := by
  unfold leftOf
  rw [Int.toNat_natCast, hr]
section
variable {w0 w : World} {R : List Pr} {S : Hp} {tk : TkM} {m : DpM} {y : DpV}
set_option maxRecDepth 20000 in
set_option maxHeartbeats 4000000 in
theorem dpLeft (H : Hd w0 (DpL y tk S m R) w) (ht : tk.Ok) (hq : m.wq.Ok) (hn : m.co.jobs.length ≤ 1000) (hj : ∀ j ∈ m.co.jobs, LOk tk j.task j.pos) (hw : ∀ x ∈ listQ m.wq.qs, LOk tk x.task 0) :
    Calls Tryz.prog 40 #[.pointer (some ⟨y.d, 0, none⟩)] w fun e w' => e = .returned (.int .i64 (m.left tk)) ∧ Hd w0 (DpL y tk S m R) w' := by
  obtain ⟨⟨l, t, a, u, ce⟩, hx⟩ : ∃ x, y.x = x := ⟨_, rfl⟩
  obtain ⟨d, c, q, x⟩ := y
  dsimp only at hx
  subst hx
  dsimp only
  have hA : ∀ x ∈ m.co.jobs.map StM.act, LOk tk x.task x.at_ := by
    intro x hx
    obtain ⟨j, hj2, rfl⟩ := List.mem_map.1 hx
    exact hj j hj2
  have hlq : (listQ m.wq.qs).length ≤ 32000 := by
    have h1 := allL_len hq.l m.wq.qs.length
    have h2 := hq.q
    unfold listQ
    rw [List.length_map]
    omega
  have hAl : (m.co.jobs.map StM.act).length ≤ 1000 := by rw [List.length_map]; exact hn
  have HA : Hd w0 _ ((w.alloc (.cells #[.pointer (some ⟨d, 0, none⟩)] 51)).alloc (.cells #[.int .i64 0] 3)) := H.fol
  have k0 := (show _ = some (Value.pointer (some ⟨l, 0, none⟩)) from (HA.k d).ce 0 rfl)
  have k1 := (show _ = some (Value.pointer (some ⟨d, 0, none⟩)) from (HA.k w.heap.size).ce 0 rfl)
  have hjb := lkJobs (HA.k l) hn
  obtain ⟨LA, hLA⟩ : ∃ LA, m.co.jobs.map StM.act = LA := ⟨_, rfl⟩
  obtain ⟨LW, hLW⟩ : ∃ LW, listQ m.wq.qs = LW := ⟨_, rfl⟩
  obtain ⟨V, hV⟩ : ∃ V, m.left tk = V := ⟨_, rfl⟩
  rw [hV]
  unfold DpM.left at hV
  rw [hLA] at hA hAl hjb hV
  rw [hLW] at hw hlq hV
  replace hV := Lib.hid hV
  replace hLA := Lib.hid hLA
  replace hLW := Lib.hid hLW
  clear H hj hn HA
  go_enter Tryz.func40, Tryz.ntmps40
  go_wp2_with fail
  refine hjb.mono ?_
  rintro e w1 ⟨v, rfl, H1⟩
  clear hjb k0 k1
  obtain ⟨a1, c1, rfl, -, -, -, -⟩ := H1.slc_form
  obtain ⟨p, hp⟩ : ∃ p, w.heap.size = p := ⟨_, rfl⟩
  rw [hp] at H1 ⊢
  have H2 : Hd w0 (cel (p + 1) 3 #[.int .i64 (leftA tk (LA.take 0))] :: cel p 51 #[.pointer (some ⟨d, 0, none⟩)] :: cel d 78 (dRow l t c q m.count) :: TkP t tk S :: ro S :: SlE 160 (.slice a1 LA.length c1) LA :: cel c 112 (coreRow c l) :: LkP ⟨l, t, a, u, ce⟩ S m.co :: WqP q m.wq :: R) w1 := by
    have e0 : leftA tk (LA.take 0) = 0 := rfl
    rw [e0]
    exact H1.re
  clear H1
  go_wp2_with fail
  go_loopw [16] (fun y wr => ∃ k : Nat, k ≤ LA.length ∧ y = .int .i64 k ∧ Hd w0 (cel (p + 1) 3 #[.int .i64 (leftA tk (LA.take k))] :: cel p 51 #[.pointer (some ⟨d, 0, none⟩)] :: cel d 78 (dRow l t c q m.count) :: TkP t tk S :: ro S :: SlE 160 (.slice a1 LA.length c1) LA :: cel c 112 (coreRow c l) :: LkP ⟨l, t, a, u, ce⟩ S m.co :: WqP q m.wq :: R) wr) (fun y _ => LA.length - (intOf y).toNat)
  case atStart => exact ⟨0, Nat.zero_le _, rfl, H2⟩
  case round =>
    obtain ⟨k, hk, rfl, H3⟩ := hrel
    clear H2
    by_cases hlt : k < LA.length
    · obtain ⟨x, hx⟩ : ∃ x, LA[k]? = some x := ⟨LA[k], List.getElem?_eq_getElem hlt⟩
      have hxo := hA x (List.mem_of_getElem? hx)
      have hs := leftA_succ (tk := tk) hx
      have hb := leftA_le ht hA k
      obtain ⟨s, hs0⟩ : ∃ s, leftA tk (LA.take k) = s := ⟨_, rfl⟩
      rw [hs0] at hs hb H3
      obtain ⟨hb1, hb2⟩ := hb
      obtain ⟨xj, xt, xl, xa⟩ := x
      dsimp only at hxo hs
      obtain ⟨h0, r, hr, h1, h2⟩ := hxo
      obtain ⟨i, rfl⟩ := Int.eq_ofNat_of_zero_le h0
      rw [Int.toNat_natCast] at hr
      rw [leftOf_some hr] at hs
      obtain ⟨g, cap, he, H4⟩ := (H3.v (.slice a1 LA.length c1)).slc_at (by omega)
      injection he with e1 e2 e3; clear e2
      subst e1
      subst e3
      have d0 := H4.slcC_rd (flat_at hx (j := 0) rfl)
      have d1 := H4.slcC_rd (flat_at hx (j := 1) rfl)
      have d2 := H4.slcC_rd (flat_at hx (j := 2) rfl)
      have d3 := H4.slcC_rd (flat_at hx (j := 3) rfl)
      simp only [Enc.size, Nat.add_zero] at d0 d1 d2 d3
      have H5 : Hd w0 _ (wr.alloc (.cells #[.int .i64 xj, .int .i64 i, .int .i64 xl, .int .i64 xa] 160)) := H3.fol
      have hf := (H5.k wr.heap.size).fact1
      simp only [Nat.reduceAdd] at hf
      go_split_ands
      have hcl := dpLeft1 (bx := p) (bs := p + 1) (d := d) (l := l) (c := c) (q := q) (n := m.count) (show Hd w0 (cel (p + 1) 3 #[.int .i64 s] :: cel p 51 #[.pointer (some ⟨d, 0, none⟩)] :: cel d 78 (dRow l t c q m.count) :: TkP t tk S :: ro S :: SlE 160 (.slice (some ⟨g, 0, none⟩) LA.length c1) LA :: cel c 112 (coreRow c l) :: LkP ⟨l, t, a, u, ce⟩ S m.co :: WqP q m.wq :: R) _ from H5.re) ht hr h1 h2 hb1 (by omega)
      have n1 : (k : Int) < LA.length := by omega
      have n2 : ¬ (k : Int) < 0 := by omega
      have n3 : ¬ LA.length ≤ k := by omega
      have g6 : IntKind.i64.wrap ((k : Int) + 1) = (k : Int) + 1 := IntWalk.i64_in _ (by omega)
      replace hs := Lib.hid hs
      replace hcl := Lib.hid hcl
      clear H3 H4 H5 hx h1 h2 hr h0 hb1 hb2 hs0
      go_wp2_with fail
      refine hcl.out.mono ?_
      rintro e w5 ⟨rfl, H6⟩
      go_wp2_with fail
      go_roundw
      case rel => exact ⟨k + 1, by omega, by simp, by rw [hs.out]; exact H6⟩
      case measure => simp [intOf]; omega
    · obtain rfl : k = LA.length := by omega
      rw [List.take_length] at H3
      have k2 := (show _ = some (Value.pointer (some ⟨d, 0, none⟩)) from (H3.k p).ce 0 rfl)
      have k3 := (show _ = some (Value.pointer (some ⟨q, 0, none⟩)) from (H3.k d).ce 3 rfl)
      have hli := wqList (H3.k q) hq
      rw [hLW.out] at hli
      clear H3
      go_wp2_with fail
      refine hli.mono ?_
      rintro e w6 ⟨v2, rfl, H4⟩
      clear hli k2 k3
      obtain ⟨a2, c2, rfl, -, -, -, -⟩ := H4.slc_form
      have bA := leftA_le ht hA LA.length
      rw [List.take_length] at bA
      have H5 : Hd w0 (cel (p + 1) 3 #[.int .i64 (leftA tk LA + leftW tk (LW.take 0))] :: cel p 51 #[.pointer (some ⟨d, 0, none⟩)] :: cel d 78 (dRow l t c q m.count) :: TkP t tk S :: ro S :: SlE 37 (.slice a2 LW.length c2) LW :: cel c 112 (coreRow c l) :: LkP ⟨l, t, a, u, ce⟩ S m.co :: WqP q m.wq :: R) w6 := by
        have e0 : leftW tk (LW.take 0) = 0 := rfl
        rw [e0, Int.add_zero]
        exact H4.re
      clear H4
      obtain ⟨sA, hsA⟩ : ∃ sA, leftA tk LA = sA := ⟨_, rfl⟩
      rw [hsA] at H5 bA hV
      obtain ⟨bA1, bA2⟩ := bA
      have hLL := hAl
      obtain ⟨nA, hnA⟩ : ∃ nA, LA.length = nA := ⟨_, rfl⟩
      rw [hnA] at bA2 hLL ⊢
      clear hAl hk hA hlt
      replace hnA := Lib.hid hnA
      go_wp2_with fail
      go_loopw [33] (fun y wr => ∃ k : Nat, k ≤ LW.length ∧ y = .int .i64 k ∧ Hd w0 (cel (p + 1) 3 #[.int .i64 (sA + leftW tk (LW.take k))] :: cel p 51 #[.pointer (some ⟨d, 0, none⟩)] :: cel d 78 (dRow l t c q m.count) :: TkP t tk S :: ro S :: SlE 37 (.slice a2 LW.length c2) LW :: cel c 112 (coreRow c l) :: LkP ⟨l, t, a, u, ce⟩ S m.co :: WqP q m.wq :: R) wr) (fun y _ => LW.length - (intOf y).toNat)
      case atStart => exact ⟨0, Nat.zero_le _, rfl, H5⟩
      case round =>
        obtain ⟨k, hk, rfl, H3⟩ := hrel
        clear H5
        by_cases hlt : k < LW.length
        · obtain ⟨x, hx⟩ : ∃ x, LW[k]? = some x := ⟨LW[k], List.getElem?_eq_getElem hlt⟩
          have hxo := hw x (List.mem_of_getElem? hx)
          have hs := leftW_succ (tk := tk) hx
          have hb := leftW_le ht hw k
          obtain ⟨s, hs0⟩ : ∃ s, leftW tk (LW.take k) = s := ⟨_, rfl⟩
          rw [hs0] at hs hb H3
          obtain ⟨hb1, hb2⟩ := hb
          obtain ⟨xj, xt, xl⟩ := x
          dsimp only at hxo hs
          obtain ⟨h0, r, hr, h1, h2⟩ := hxo
          obtain ⟨i, rfl⟩ := Int.eq_ofNat_of_zero_le h0
          rw [Int.toNat_natCast] at hr
          rw [leftOf_some hr] at hs
          obtain ⟨g, cap, he, H4⟩ := (H3.v (.slice a2 LW.length c2)).slc_at (by omega)
          injection he with e1 e2 e3; clear e2
          subst e1
          subst e3
          have d0 := H4.slcC_rd (flat_at hx (j := 0) rfl)
          have d1 := H4.slcC_rd (flat_at hx (j := 1) rfl)
          have d2 := H4.slcC_rd (flat_at hx (j := 2) rfl)
          simp only [Enc.size, Nat.add_zero] at d0 d1 d2
          have H5 : Hd w0 _ (wr.alloc (.cells #[.int .i64 xj, .int .i64 i, .int .i64 xl] 37)) := H3.fol
          have hf := (H5.k wr.heap.size).fact1
          simp only [Nat.reduceAdd] at hf
          go_split_ands
          have hcl := dpLeft1 (bx := p) (bs := p + 1) (d := d) (l := l) (c := c) (q := q) (n := m.count) (show Hd w0 (cel (p + 1) 3 #[.int .i64 (sA + s)] :: cel p 51 #[.pointer (some ⟨d, 0, none⟩)] :: cel d 78 (dRow l t c q m.count) :: TkP t tk S :: ro S :: SlE 37 (.slice (some ⟨g, 0, none⟩) LW.length c2) LW :: cel c 112 (coreRow c l) :: LkP ⟨l, t, a, u, ce⟩ S m.co :: WqP q m.wq :: R) _ from H5.re) ht hr h1 h2 (by omega) (by omega)
          have n1 : (k : Int) < LW.length := by omega
          have n2 : ¬ (k : Int) < 0 := by omega
          have n3 : ¬ LW.length ≤ k := by omega
          have g6 : IntKind.i64.wrap ((k : Int) + 1) = (k : Int) + 1 := IntWalk.i64_in _ (by omega)
          have e5 : sA + leftW tk (LW.take (k + 1)) = sA + s + (r.steps.length - 0) := by rw [hs]; omega
          replace e5 := Lib.hid e5
          replace hcl := Lib.hid hcl
          clear H3 H4 H5 hx h1 h2 hr h0 hb1 hb2 hs0 hs
          go_wp2_with fail
          refine hcl.out.mono ?_
          rintro e w5 ⟨rfl, H6⟩
          go_wp2_with fail
          go_roundw
          case rel => exact ⟨k + 1, by omega, by simp, by rw [e5.out]; exact H6⟩
          case measure => simp [intOf]; omega
        · obtain rfl : k = LW.length := by omega
          rw [List.take_length, hV.out] at H3
          have k4 := (show _ = some (Value.int .i64 V) from (H3.k (p + 1)).ce 0 rfl)
          have h3 := Lib.hid H3
          clear H3
          go_wp2_with fail
          go_ret
          exact ⟨rfl, h3.out.re⟩
end
end Go.Proofs.YtogcikilphakmaaGreatDoor
