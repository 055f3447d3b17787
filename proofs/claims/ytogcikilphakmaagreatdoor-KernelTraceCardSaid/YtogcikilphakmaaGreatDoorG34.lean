/-
  Merged texts of one proof: Hol4, CeM, CeR.
-/
import Derived.Deep.MidRow
import Derived.Test.YtogcikilphakmaaGreatDoorG29
import Derived.Test.YtogcikilphakmaaGreatDoorG32
import Derived.Test.YtogcikilphakmaaGreatDoorG33

/-
  units.Table.Holders. Every table.
-/
namespace Go.Proofs.YtogcikilphakmaaGreatDoor
open Go.RowKit Spl

attribute [local go_sem] Oper.semAt_some
def holdersM (m : UnM) (r : Nat) : List HoldM := m.jobs.filterMap fun j => if 0 < j.h.held[r]?.getD 0 then some ⟨j.job, j.h.held[r]?.getD 0⟩ else none
def holdTo (m : UnM) (r i : Nat) : List HoldM := (m.jobs.take i).filterMap fun j => if 0 < j.h.held[r]?.getD 0 then some ⟨j.job, j.h.held[r]?.getD 0⟩ else none
section
variable {w0 w : World} {R : List Pr} {t : Nat} {m : UnM}
theorem infoHold : (Tryz.prog.info? 242).map (fun i => (i.zero, i.size, i.bytes)) = some (some (.agg #[.int .i64 0, .int .i64 0]), 2, 16) := by kernel_rfl
set_option maxRecDepth 100000 in
set_option maxHeartbeats 4000000 in
theorem unHolders (H : Hd w0 (UnP t m :: R) w) (hm : m.Inv) {r : Nat} (hr : r < m.units.length) :
    Calls Tryz.prog 83 #[.pointer (some ⟨t, 0, none⟩), .int .i64 r] w fun e w' => ∃ v, e = .returned v ∧ Hd w0 (SlE 242 v (holdersM m r) :: UnP t m :: R) w' := by
  refine (callsIn_wide (n := 5)).1 ?_
  have HA : Hd w0 (UnP t m :: cel (w.heap.size + 1) 123 #[.slice none 0 0] :: cel w.heap.size 3 #[.int .i64 r] :: R) ((w.alloc (.cells #[.int .i64 r] 3)).alloc (.cells #[.slice none 0 0] 123)) := by
    have h : Hd w0 _ ((w.alloc (.cells #[.int .i64 r] 3)).alloc (.cells #[.slice none 0 0] 123)) := H.fol
    exact h.re
  have hhas := callsIn_wide (n := 4).2 (unHas HA r hr)
  have c0 := (show _ = some (Value.int .i64 r) from (HA.k w.heap.size).ce 0 rfl)
  refine callsIn_of_wp_marks Tryz.func83 rfl trivial ?_ rfl
  simp only [Tryz.ntmps83, List.size_toArray, List.length_cons, List.length_nil, Nat.reduceAdd, Nat.reduceSub, Array.replicate_succ, Array.replicate_zero, List.push_toArray, List.append_toArray, List.nil_append, List.cons_append]
  gi_wp2_with (first | (refine ⟨trivial, ?_⟩; gi_at_call 110; refine hhas.mono ?_; rintro e W1 ⟨rfl, rfl⟩) | (refine ⟨trivial, ?_⟩; gi_at_call 111; refine (callsIn_wide.2 (allH (t := t) (o := 3) HA)).mono ?_; rintro e W2 ⟨b, rfl, HB⟩))
  clear hhas c0 HA H
  obtain ⟨⟨vu, vf, vc, vj, bs⟩, hb, HC⟩ := UnP.opened HB.b2
  dsimp only at hb HC
  obtain ⟨p, hp⟩ : ∃ p, w.heap.size = p := ⟨_, rfl⟩
  rw [hp] at HC ⊢
  have HD : Hd w0 (all [ex fun v : Value => all [cel (p + 1) 123 #[v], SlE 242 v (holdTo m r 0)], cel p 3 #[.int .i64 r], all (List.zipWith hol bs m.jobs)] :: cel b 263 #[.pointer (some ⟨t, 3, none⟩)] :: cel t 228 #[vu, vf, vc, vj] :: SlE 267 vj (rowsOf m.jobs bs) :: SlE 3 vu m.units :: SlE 3 vf m.free :: SlE 3 vc m.cells :: R) W2 := by
    have HN : Hd w0 (SlE 242 (.slice none 0 0) (holdTo m r 0) :: _) W2 := HC.slc_nil 242 2
    have H2 : Hd w0 (cel (p + 1) 123 #[.slice none 0 0] :: SlE 242 (.slice none 0 0) (holdTo m r 0) :: cel p 3 #[.int .i64 r] :: all (List.zipWith hol bs m.jobs) :: cel b 263 #[.pointer (some ⟨t, 3, none⟩)] :: cel t 228 #[vu, vf, vc, vj] :: SlE 267 vj (rowsOf m.jobs bs) :: SlE 3 vu m.units :: SlE 3 vf m.free :: SlE 3 vc m.cells :: R) W2 := HN.re
    have H3 := Hd.into (S := fun v : Value => all [cel (p + 1) 123 #[v], SlE 242 v (holdTo m r 0)]) (.slice none 0 0) (Hd.pack (L := [_, _]) H2)
    exact Hd.pack (L := [_, _, _]) H3
  refine wpIn_rangeFunc_hd (gf := 142) (lb := #[.pointer (some ⟨b, 0, none⟩)]) rfl (enters_of Tryz.func142 (by kernel_rfl) rfl) (encs := fun x : RowH => #[.int .i64 x.k, .pointer (some ⟨x.b, 0, none⟩)]) (fun _ => rfl) (fun i => [ex fun v : Value => all [cel (p + 1) 123 #[v], SlE 242 v (holdTo m r i)], cel p 3 #[.int .i64 r], all (List.zipWith hol bs m.jobs)]) HD (seqHold (by rw [rowsOf_len hb]; have := hm.jobsLe; omega)) (fun x => { tmps := #[.pointer (some ⟨t, 0, none⟩), .int .i64 r, undef, .pointer (some ⟨p, 0, none⟩), .slice none 0 0, .pointer (some ⟨p + 1, 0, none⟩), .int .i64 x.k, .pointer (some ⟨x.b, 0, none⟩), undef, .pointer (some ⟨t, 0, none⟩), .int .i64 r, .bool true, .bool false, undef, .pointer (some ⟨t, 0, none⟩), .pointer (some ⟨t, 0, none⟩), .pointer (some ⟨t, 3, none⟩), .func (.func 142) #[] #[.pointer (some ⟨b, 0, none⟩)], .int .i64 x.k, .pointer (some ⟨x.b, 0, none⟩), undef, undef, undef, undef, undef, undef, undef, undef, undef, undef, undef, undef, undef, undef, undef, undef], defers := [] }) ?assign ?body ?done
  case assign =>
    intro l x W K hK
    gi_wp2
    exact hK
  case body =>
    intro lp i x X W hx HW
    obtain ⟨v, H5⟩ := Hd.out (R := [cel p 3 #[.int .i64 r], all (List.zipWith hol bs m.jobs)] ++ X) HW
    have H6 : Hd w0 (all (List.zipWith hol bs m.jobs) :: cel (p + 1) 123 #[v] :: SlE 242 v (holdTo m r i) :: cel p 3 #[.int .i64 r] :: X) W := by
      have h : Hd w0 (cel (p + 1) 123 #[v] :: SlE 242 v (holdTo m r i) :: cel p 3 #[.int .i64 r] :: all (List.zipWith hol bs m.jobs) :: X) W := H5.flat
      exact h.d4.re
    obtain ⟨j, b', hj, hb', rfl⟩ : ∃ j b', m.jobs[i]? = some j ∧ bs[i]? = some b' ∧ x = ⟨j.job, b'⟩ := by
      have hi := lt_of_get? hx
      rw [rowsOf_len hb] at hi
      have q1 : m.jobs[i]? = some m.jobs[i] := List.getElem?_eq_getElem hi
      have q2 : bs[i]? = some (bs[i]'(by omega)) := List.getElem?_eq_getElem _
      rw [rowsOf_at q1 q2] at hx
      exact ⟨_, _, q1, q2, (Option.some.inj hx).symm⟩
    obtain ⟨lv, H7⟩ := (H6.row_nth hb' hj).out
    have H8 : Hd w0 (cel b' 240 (lv :: j.h.held.map (Value.int .i64)).toArray :: SlE 296 lv j.h.locks :: all ((List.zipWith hol bs m.jobs).eraseIdx i) :: cel (p + 1) 123 #[v] :: SlE 242 v (holdTo m r i) :: cel p 3 #[.int .i64 r] :: X) W := H7.flat
    have h16 := hm.hl j (List.mem_of_getElem? hj)
    have hu := hm.u16
    obtain ⟨h, hh⟩ : ∃ h, j.h.held[r]? = some h := ⟨j.h.held[r]'(by omega), List.getElem?_eq_getElem _⟩
    have hC : ((lv :: j.h.held.map (Value.int .i64)).toArray)[1 + r]? = some (.int .i64 h) := by simp [Nat.add_comm 1 r, hh]
    have k0 := H8.ce (1 + r) hC
    have k1 := (show _ = some (Value.int .i64 r) from (H8.k p).ce 0 rfl)
    have k2 := (show _ = some v from (H8.k (p + 1)).ce 0 rfl)
    have n6 : (r : Int) < 16 := by omega
    have n7 : (0 : Int) ≤ r := by omega
    have n8 : ¬ (r : Int) < 0 := by omega
    have hp1 : holdTo m r (i + 1) = holdTo m r i ++ (if 0 < h then [⟨j.job, h⟩] else []) := by
      unfold holdTo
      rw [List.take_add_one, hj, List.filterMap_append]
      simp only [Option.toList_some, List.filterMap_cons, List.filterMap_nil, hh, Option.getD_some]
      by_cases hz : 0 < h
      · simp [hz]
      · simp [hz]
    obtain ⟨T, hT⟩ : ∃ T, holdTo m r i = T := ⟨_, rfl⟩
    have hTl : T.length ≤ 5000 := by
      rw [← hT]
      unfold holdTo
      refine Nat.le_trans (List.length_filterMap_le _ _) ?_
      have := hm.jobsLe
      rw [List.length_take]
      omega
    rw [hT] at hp1 H8
    rw [hp1]
    obtain ⟨i0, hi, hz0, hz1, hz2⟩ := info_parts infoHold
    have HB : ∀ (L : List Pr) (W' : World), Hd w0 (cel b' 240 (lv :: j.h.held.map (Value.int .i64)).toArray :: SlE 296 lv j.h.locks :: all ((List.zipWith hol bs m.jobs).eraseIdx i) :: L) W' → Hd w0 (all (List.zipWith hol bs m.jobs) :: L) W' := by
      intro L W' h
      have h2 : Hd w0 (hol b' j :: all ((List.zipWith hol bs m.jobs).eraseIdx i) :: L) W' := Hd.into lv (Hd.pack (L := [_, _]) h)
      exact h2.row_same hb' hj
    have n9 : ¬ (h : Int) ≤ -1 := by
      have := hm.pos j (List.mem_of_getElem? hj) r
      rw [hh] at this
      simp at this
      omega
    clear hp1 H5 H6 H7 hx hT hC
    replace HB := Lib.hid HB
    by_cases hz : 0 < h
    · rw [if_pos hz]
      have HP : Hd w0 _ (W.drew.alloc (.cells #[.int .i64 j.job, .int .i64 h] 242)) := H8.fol
      have y0 := (show _ = some v from (HP.k (p + 1)).ce 0 rfl)
      have hS : ∀ {v' : Value} {L : List Pr} {w : World}, Hd w0 (Slc 242 2 v' (T.length + 1) (flat T ++ [.int .i64 j.job, .int .i64 h]) :: L) w → Hd w0 (SlE 242 v' (T ++ [⟨j.job, h⟩]) :: L) w := by
        intro v' L w h2
        have e1 : (T ++ [(⟨j.job, h⟩ : HoldM)]).length = T.length + 1 := by simp
        have e2 : flat (T ++ [(⟨j.job, h⟩ : HoldM)]) = flat T ++ [.int .i64 j.job, .int .i64 h] := by rw [flat_append, flat_one]; rfl
        unfold SlE
        rw [e1, e2]
        exact h2
      gi_wp2
      gi_region
      all_goals gi_wp2_with (gi_at_builtin; refine wpListIn_append_slc rfl _ _ 123 rfl 242 i0 _ 2 16 Tryz.underlying123 hi hz0 hz1 hz2 rfl _ _ _ rfl (HP.v v) ⟨W.heap.size, 0, none⟩ 1 1 [.int .i64 j.job, .int .i64 h] rfl rfl (cel_news (HP.k W.heap.size)) (by simp [Value.oneCell']) (by unfold maxLen; omega) (by omega) ?_; intro v' w2 H4; have HF := hS H4; obtain ⟨l', hl'⟩ : ∃ l', T ++ [⟨j.job, h⟩] = l' := ⟨_, rfl⟩; rw [hl'] at HF; obtain ⟨a', c', rfl, -, -, -, -⟩ := HF.slc_form; replace hl' := Lib.hid hl'; have d0 := (HF.k (p + 1)).ce 0 rfl; have f0 := (HF.k (p + 1)).fr 0; clear H4)
      all_goals (
        rw [hl'.out]
        have HG0 : Hd w0 (cel b' 240 (lv :: j.h.held.map (Value.int .i64)).toArray :: SlE 296 lv j.h.locks :: all ((List.zipWith hol bs m.jobs).eraseIdx i) :: cel (p + 1) 123 #[.slice a' l'.length c'] :: SlE 242 (.slice a' l'.length c') l' :: cel p 3 #[.int .i64 r] :: X) (w2.setCell ⟨p + 1, 0, none⟩ (.slice a' l'.length c')) := Hd.fin HF
        have HG := HB.out _ _ HG0
        have HI : Hd w0 (cel (p + 1) 123 #[.slice a' l'.length c'] :: SlE 242 (.slice a' l'.length c') l' :: cel p 3 #[.int .i64 r] :: all (List.zipWith hol bs m.jobs) :: X) (w2.setCell ⟨p + 1, 0, none⟩ (.slice a' l'.length c')) := HG.re
        exact Hd.into (S := fun v : Value => all [cel (p + 1) 123 #[v], SlE 242 v l']) _ (Hd.pack (L := [_, _]) HI))
    · rw [if_neg hz]
      gi_wp2
      gi_region
      all_goals gi_wp2
      all_goals (
        rw [List.append_nil]
        have HF : Hd w0 _ W.drew := H8.fol
        have HG : Hd w0 (all (List.zipWith hol bs m.jobs) :: cel (p + 1) 123 #[v] :: SlE 242 v T :: cel p 3 #[.int .i64 r] :: X) W.drew := HB.out _ _ HF
        have HI : Hd w0 (cel (p + 1) 123 #[v] :: SlE 242 v T :: cel p 3 #[.int .i64 r] :: all (List.zipWith hol bs m.jobs) :: X) W.drew := HG.re
        exact Hd.into (S := fun v : Value => all [cel (p + 1) 123 #[v], SlE 242 v T]) v (Hd.pack (L := [_, _]) HI))
  case done =>
    intro D W HW
    obtain ⟨v, H5⟩ := Hd.out (R := [cel p 3 #[.int .i64 r], all (List.zipWith hol bs m.jobs)] ++ _) HW
    have H6 := H5.flat
    have c1 := (show _ = some v from H6.ce 0 rfl)
    have hcl := callsIn_wide (n := 4).2 (clip_hold H6.b2)
    gi_wp2_with (first | (refine ⟨trivial, ?_⟩; gi_at_call 112; refine hcl.mono ?_; rintro e W3 ⟨v', rfl, H7⟩))
    have e1 : holdTo m r (rowsOf m.jobs bs).length = holdersM m r := by unfold holdTo holdersM; rw [rowsOf_len hb, List.take_length]
    rw [e1] at H7
    have H9 : Hd w0 (SlE 242 v' (holdersM m r) :: cel (p + 1) 123 #[v] :: cel p 3 #[.int .i64 r] :: all (List.zipWith hol bs m.jobs) :: pt D (.deferred (some [])) :: cel b 263 #[.pointer (some ⟨t, 3, none⟩)] :: cel t 228 #[vu, vf, vc, vj] :: SlE 267 vj (rowsOf m.jobs bs) :: SlE 3 vu m.units :: SlE 3 vf m.free :: SlE 3 vc m.cells :: R) W3 := H7
    have H8 : Hd w0 (pt D (.deferred (some [])) :: SlE 242 v' (holdersM m r) :: cel t 228 #[vu, vf, vc, vj] :: SlE 3 vu m.units :: SlE 3 vf m.free :: SlE 3 vc m.cells :: SlE 267 vj (rowsOf m.jobs bs) :: all (List.zipWith hol bs m.jobs) :: R) W3 := H9.re
    refine leaves_mark H8 (fun W HW => ⟨_, results_tmp rfl _ _ _, v', rfl, ?_⟩)
    have HX : Hd w0 (cel t 228 #[vu, vf, vc, vj] :: SlE 3 vu m.units :: SlE 3 vf m.free :: SlE 3 vc m.cells :: SlE 267 vj (rowsOf m.jobs bs) :: all (List.zipWith hol bs m.jobs) :: SlE 242 v' (holdersM m r) :: R) W := HW.re
    exact (UnP.shut (x := ⟨vu, vf, vc, vj, bs⟩) HX hb).re
end
end Go.Proofs.YtogcikilphakmaaGreatDoor

/-
  Package ceil: a resource's row of ceilings, one of its ceilings. Every table.
-/
namespace Go.Proofs.YtogcikilphakmaaGreatDoor
open Go.RowKit Spl

/-- The ceiling of a resource at f free units, by the rows of the tasks. -/
def ceilRow (rs : List RowM) (res f : Int) : Int := rs.foldl (fun n r => if f < needOf r.t.needs res then max n r.t.lv else n) 0
def ceilAt (m : TkM) (res free : Int) : Int :=
  if res < 0 ∨ (m.units.length : Int) ≤ res ∨ (m.units[res.toNat]?.getD 0) < free then 0 else ceilRow m.rows res (max free 0)
theorem ceilRow_succ {rs : List RowM} {k : Nat} {r : RowM} {res f : Int} (h : rs[k]? = some r) : ceilRow (rs.take (k + 1)) res f = if f < needOf r.t.needs res then max (ceilRow (rs.take k) res f) r.t.lv else ceilRow (rs.take k) res f := by
  unfold ceilRow
  rw [List.take_add_one, h]
  simp [List.foldl_append]
theorem ceilRow_le {rs : List RowM} {res f : Int} (hf : ∀ r ∈ rs, 1 ≤ r.t.lv ∧ r.t.lv ≤ 32) : 0 ≤ ceilRow rs res f ∧ ceilRow rs res f ≤ 32 := by
  suffices h : ∀ (l : List RowM) (n : Int), (∀ r ∈ l, 1 ≤ r.t.lv ∧ r.t.lv ≤ 32) → 0 ≤ n ∧ n ≤ 32 → 0 ≤ l.foldl (fun n r => if f < needOf r.t.needs res then max n r.t.lv else n) n ∧ l.foldl (fun n r => if f < needOf r.t.needs res then max n r.t.lv else n) n ≤ 32 from h rs 0 hf (by omega)
  intro l
  induction l with
  | nil => exact fun n _ hn => hn
  | cons x l ih =>
    intro n hl hn
    have hx := hl x (by simp)
    refine ih _ (fun r hr => hl r (by simp [hr])) ?_
    dsimp only
    by_cases hq : f < needOf x.t.needs res
    · rw [if_pos hq]; omega
    · rw [if_neg hq]; omega
/-- The 256 ceilings: the first k tasks done, and of the next one (need q) its first j units. -/
def rowTo (rs : List RowM) (res : Int) (k : Nat) : List Int := (List.range 256).map fun f : Nat => ceilRow (rs.take k) res f
def rowToJ (rs : List RowM) (res : Int) (k j : Nat) (lv : Int) : List Int := (List.range 256).map fun f : Nat => if f < j then max (ceilRow (rs.take k) res f) lv else ceilRow (rs.take k) res f
theorem rowTo_len (rs : List RowM) (res : Int) (k : Nat) : (rowTo rs res k).length = 256 := by simp [rowTo]
theorem rowToJ_len (rs : List RowM) (res : Int) (k j : Nat) (lv : Int) : (rowToJ rs res k j lv).length = 256 := by simp [rowToJ]
theorem rowToJ_zero (rs : List RowM) (res : Int) (k : Nat) (lv : Int) : rowToJ rs res k 0 lv = rowTo rs res k := by simp [rowToJ, rowTo]
theorem rowTo_at {rs : List RowM} {res : Int} {k f : Nat} (h : f < 256) : (rowTo rs res k)[f]? = some (ceilRow (rs.take k) res f) := by simp [rowTo, h]
theorem rowToJ_at {rs : List RowM} {res : Int} {k j : Nat} {lv : Int} (h : j < 256) : (rowToJ rs res k j lv)[j]? = some (ceilRow (rs.take k) res j) := by simp [rowToJ, h]
theorem rowToJ_succ {rs : List RowM} {res : Int} {k j : Nat} {lv : Int} (h : j < 256) : (rowToJ rs res k j lv).set j (max (ceilRow (rs.take k) res j) lv) = rowToJ rs res k (j + 1) lv := by
  apply List.ext_getElem?
  intro i
  by_cases hi : j = i
  · subst hi
    rw [List.getElem?_set_self (by rw [rowToJ_len]; exact h)]
    simp [rowToJ, h]
  · rw [List.getElem?_set_ne hi]
    simp only [rowToJ, List.getElem?_map]
    rcases Nat.lt_or_ge i 256 with h2 | h2
    · rw [List.getElem?_range h2]
      simp only [Option.map_some]
      congr 1
      have e1 : (i < j + 1) = (i < j) := by apply propext; omega
      simp only [e1]
    · rw [List.getElem?_eq_none (by simpa using h2)]
      rfl
theorem rowToJ_done {rs : List RowM} {res : Int} {k : Nat} {r : RowM} {q : Nat} (h : rs[k]? = some r) (hq : needOf r.t.needs res = q) : rowToJ rs res k q r.t.lv = rowTo rs res (k + 1) := by
  unfold rowToJ rowTo
  apply List.map_congr_left
  intro f _
  rw [ceilRow_succ h, hq]
  have e1 : ((f : Int) < q) = (f < q) := by apply propext; omega
  simp only [e1]
theorem rowTo_zero (rs : List RowM) (res : Int) : rowTo rs res 0 = List.replicate 256 0 := by
  unfold rowTo
  simp [ceilRow, List.map_const']
theorem needOf_le {m : TkM} (hm : m.Ok) {r : RowM} (hr : r ∈ m.rows) (res : Int) : 0 ≤ needOf r.t.needs res ∧ needOf r.t.needs res ≤ 255 := by
  unfold needOf
  split
  · rename_i x hx
    have := (hm.nd r hr).2 x (List.mem_of_find?_eq_some hx)
    omega
  · omega
end Go.Proofs.YtogcikilphakmaaGreatDoor

/-
  Package ceil: rowOf, At. Every table, every resource, any number of free units.
-/
namespace Go.Proofs.YtogcikilphakmaaGreatDoor
open Go.RowKit Spl

section
variable {w0 w : World} {R : List Pr} {t : Nat} {m : TkM} {S : Hp}
theorem heldA_rd {l : List Int} {b T : Nat} {w : World} (H : Hd w0 (cel b T (heldA l) :: R) w) {i : Nat} {x : Int} (h : l[i]? = some x) : w.cell? ⟨b, i, none⟩ = some (.int .i64 x) := by
  rw [H.rd]
  simp [heldA, h]
theorem heldA_range {l : List Int} {b T : Nat} {w : World} (H : Hd w0 (cel b T (heldA l) :: R) w) : w.rangeAt b 0 (l.map (Value.int .i64)) := fun q u hq => by
  rw [Nat.zero_add]
  rw [H.rd]
  simpa [heldA] using hq
theorem heldA_set (l : List Int) (i : Nat) (x : Int) : (heldA l).setIfInBounds i (.int .i64 x) = heldA (l.set i x) := by simp [heldA, List.map_set]
theorem heldA_size (l : List Int) : (heldA l).size = l.length := by simp [heldA]
set_option maxRecDepth 20000 in
set_option maxHeartbeats 1600000 in
theorem ceRowOfNo (H : Hd w0 (TkP t m S :: R) w) (hm : m.Ok) {res : Int} (hr : res < 0 ∨ (m.units.length : Int) ≤ res) :
    Calls Tryz.prog 179 #[.pointer (some ⟨t, 0, none⟩), .int .i64 res] w fun e w' => e = .returned (.tuple #[.agg (heldA (List.replicate 256 0)), .int .i64 (-1)]) ∧ Hd w0 (TkP t m S :: R) w' := by
  obtain ⟨Z, hZ⟩ : ∃ Z : Array Value, heldA (List.replicate 256 0) = Z := ⟨_, rfl⟩
  have hZc : (Value.agg Z).cells = Z := rfl
  have hZs := Lib.hid (show Z.size = 256 by rw [← hZ]; simp [heldA])
  have hone := Lib.hid (hZ ▸ heldA_one (List.replicate 256 0))
  rw [hZ]
  have H2 : Hd w0 _ ((w.alloc (.cells Z 299)).alloc (.cells Z 299)) := H.fol
  have hu := tkUnits H2.b3 hm
  have hlenU := hm.u
  replace hZ := Lib.hid hZ
  clear H H2
  obtain ⟨N, hN⟩ : ∃ N, m.units.length = N := ⟨_, rfl⟩
  have hr' : res < 0 ∨ (¬ res < 0 ∧ (N : Int) ≤ res) := by omega
  rw [hN] at hlenU hu
  clear hr
  rcases hr' with h1 | ⟨h1, h2⟩
  all_goals
    go_enter Tryz.func179, Tryz.ntmps179
    go_wp2_with (first | (refine wpList_alloc_row rfl 299 rfl (.agg Z) (by rw [← hZ.out]; kernel_rfl) ?_))
    refine hu.mono ?_
    rintro e w1 ⟨g, rfl, H3⟩
    clear hu
    have H4 : Hd w0 (cel (w.heap.size + 1) 299 Z :: cel w.heap.size 299 Z :: SlEC 3 g N m.units :: TkP t m S :: R) w1 := H3.re
    have hcell : w1.rangeAt (w.heap.size + 1) 0 Z.toList := fun q u hq => by rw [Nat.zero_add]; rw [H4.rd]; simpa using hq
    replace hcell := Lib.hid hcell
    go_wp2_with (first | (refine wpList_load_mid rfl 299 _ rfl (w.heap.size + 1) 0 rfl Z.toList _ hcell.out Tryz.underlying299 rfl (by rw [Array.length_toList, hZs.out]; kernel_rfl) ?_; simp only [Array.toArray_toList]) | (refine wpList_store_all (cells := Z) (H4.k w.heap.size) rfl 299 _ _ rfl rfl rfl (by rw [hZs.out]; kernel_rfl) rfl hone.out ?_; intro w4 H9))
    (try simp only [Exit.inBlock, Exit.then])
    refine bodyPost_ret (results_row_tmp rfl _ _ w.heap.size 299 Z (0, 0) _ (by rfl) (by exact ((Hd.fol H9 : Hd w0 _ _).k w.heap.size).heap) Tryz.underlying299 rfl (by rw [hZs.out]; kernel_rfl)) rfl ⟨rfl, ?_⟩
    exact Hd.fin H9

set_option maxRecDepth 20000 in
set_option maxHeartbeats 4000000 in
theorem ceRowOf (H : Hd w0 (TkP t m S :: ro S :: R) w) (hm : m.Ok) {r : Nat} {U : Int} (hr : m.units[r]? = some U) :
    Calls Tryz.prog 179 #[.pointer (some ⟨t, 0, none⟩), .int .i64 r] w fun e w' => e = .returned (.tuple #[.agg (heldA (rowTo m.rows r m.rows.length)), .int .i64 U]) ∧ Hd w0 (TkP t m S :: ro S :: R) w' := by
  obtain ⟨Z, hZ⟩ : ∃ Z : Array Value, heldA (List.replicate 256 0) = Z := ⟨_, rfl⟩
  have hZc : (Value.agg Z).cells = Z := rfl
  have hZs := Lib.hid (show Z.size = 256 by rw [← hZ]; simp [heldA])
  have hZ0 := Lib.hid (show Z = heldA (rowTo m.rows r 0) by rw [rowTo_zero, hZ])
  have H2 : Hd w0 _ ((w.alloc (.cells Z 299)).alloc (.cells Z 299)) := H.fol
  have hu := tkUnits H2.b3 hm
  have hlenU := hm.u
  replace hZ := Lib.hid hZ
  clear H H2
  have hrl : r < m.units.length := lt_of_get? hr
  obtain ⟨N, hN⟩ : ∃ N, m.units.length = N := ⟨_, rfl⟩
  rw [hN] at hlenU hu hrl
  have n1 : ¬ (r : Int) < 0 := by omega
  have n2 : (r : Int) < N := by omega
  have n3 : ¬ N ≤ r := by omega
  go_enter Tryz.func179, Tryz.ntmps179
  go_wp2_with (first | (refine wpList_alloc_row rfl 299 rfl (.agg Z) (by rw [← hZ.out]; kernel_rfl) ?_))
  refine hu.mono ?_
  rintro e w1 ⟨g, rfl, H3⟩
  clear hu
  have H4 : Hd w0 (TkP t m S :: ro S :: cel (w.heap.size + 1) 299 Z :: cel w.heap.size 299 Z :: SlEC 3 g N m.units :: R) w1 := H3.re
  have hl := tkLen H4
  clear H3
  go_wp2_with fail
  refine hl.mono ?_
  rintro e w2 ⟨rfl, rfl⟩
  clear hl
  have hML := hm.n
  obtain ⟨M, hM⟩ : ∃ M, m.rows.length = M := ⟨_, rfl⟩
  rw [hM] at hML ⊢
  go_wp2_with fail
  go_loopw [28] (fun x wr => ∃ k : Nat, k ≤ M ∧ x = .int .i64 k ∧ Hd w0 (cel (w.heap.size + 1) 299 (heldA (rowTo m.rows r k)) :: TkP t m S :: ro S :: cel w.heap.size 299 Z :: SlEC 3 g N m.units :: R) wr) (fun x _ => M - (intOf x).toNat)
  case atStart => exact ⟨0, Nat.zero_le _, rfl, by rw [← hZ0.out]; exact H4.re⟩
  case round =>
    clear H4
    obtain ⟨k, hk, rfl, H5⟩ := hrel
    by_cases hlt : k < M
    · obtain ⟨x, hx⟩ : ∃ x, m.rows[k]? = some x := ⟨m.rows[k]'(by omega), List.getElem?_eq_getElem _⟩
      have hxm := List.mem_of_getElem? hx
      have hlv := hm.lv x hxm
      have n4 : (k : Int) < M := by omega
      have g5 : IntKind.i64.wrap ((k : Int) + 1) = (k : Int) + 1 := IntWalk.i64_in _ (by omega)
      have hg := fun (w3 : World) (h : Hd w0 (TkP t m S :: ro S :: cel (w.heap.size + 1) 299 (heldA (rowTo m.rows r k)) :: cel w.heap.size 299 Z :: SlEC 3 g N m.units :: R) w3) => tkGet h hm hx
      obtain ⟨q, hq⟩ : ∃ q : Nat, needOf x.t.needs r = q := ⟨(needOf x.t.needs r).toNat, by have := needOf_le hm hxm r; omega⟩
      have hql := needOf_le hm hxm (r : Int)
      rw [hq] at hql
      have hdone := Lib.hid (rowToJ_done hx hq)
      have hz0 := Lib.hid (rowToJ_zero m.rows r k x.t.lv)
      obtain ⟨⟨nm, lv, fr, nds, cd, p, f, gg⟩, stp⟩ := x
      dsimp only at hlv hg hdone hz0 hq
      have hnd := Lib.hid (fun (L : List Pr) (w3 : World) (h : Hd w0 (TkP t m S :: ro S :: L) w3) => tkNeed h hm hx r)
      have hg1 := hg _ H5.re
      clear hg hx hxm H5
      go_wp2_with fail
      refine hg1.mono ?_
      rintro e w3 ⟨v, rfl, H6⟩
      clear hg1
      obtain ⟨a1, c1, rfl, -, -, -, -⟩ := H6.slc_form
      have H7a : Hd w0 _ (w3.alloc (.cells #[.string nm, .int .i64 lv, .int .i64 fr, .slice a1 nds.length c1, .string cd, .int .i64 p, .int .i64 f, .int .i64 gg] 33)) := H6.fol
      have H7 : Hd w0 (TkP t m S :: ro S :: cel w3.heap.size 33 #[.string nm, .int .i64 lv, .int .i64 fr, .slice a1 nds.length c1, .string cd, .int .i64 p, .int .i64 f, .int .i64 gg] :: cel (w.heap.size + 1) 299 (heldA (rowTo m.rows r k)) :: cel w.heap.size 299 Z :: SlEC 3 g N m.units :: R) (w3.alloc (.cells #[.string nm, .int .i64 lv, .int .i64 fr, .slice a1 nds.length c1, .string cd, .int .i64 p, .int .i64 f, .int .i64 gg] 33)) := H7a.re
      have hn1 := hnd.out _ _ H7
      rw [hq] at hn1
      go_wp2_with fail
      refine hn1.mono ?_
      rintro e w4 ⟨rfl, H8⟩
      clear hn1 H6 H7 H7a
      go_wp2_with fail
      obtain ⟨xb, hxb⟩ : ∃ xb, w3.heap.size = xb := ⟨_, rfl⟩
      rw [hxb] at H8 ⊢
      go_loopw [41] (fun y wv => ∃ j : Nat, j ≤ q ∧ y = .int .i64 j ∧ Hd w0 (cel (w.heap.size + 1) 299 (heldA (rowToJ m.rows r k j lv)) :: cel xb 33 #[.string nm, .int .i64 lv, .int .i64 fr, .slice a1 nds.length c1, .string cd, .int .i64 p, .int .i64 f, .int .i64 gg] :: TkP t m S :: ro S :: cel w.heap.size 299 Z :: SlEC 3 g N m.units :: R) wv) (fun y _ => q - (intOf y).toNat)
      case atStart => exact ⟨0, Nat.zero_le _, rfl, by rw [hz0.out]; exact H8.re⟩
      case round =>
        clear H8
        obtain ⟨j, hj, rfl, H9⟩ := hrel
        by_cases hjq : j < q
        · have m1 : (j : Int) < q := by omega
          have m2 : (0 : Int) ≤ j := by omega
          have m3 : (j : Int) < 256 := by omega
          have g6 : IntKind.i64.wrap ((j : Int) + 1) = (j : Int) + 1 := IntWalk.i64_in _ (by omega)
          have j256 : j < 256 := by omega
          have d0 := heldA_rd H9 (rowToJ_at (rs := m.rows) (res := r) (k := k) (lv := lv) j256)
          have d1 := (show _ = some (Value.int .i64 lv) from (H9.k xb).ce 1 rfl)
          have d2 : ∀ i, wr.frozen? ⟨w.heap.size + 1, i, none⟩ = false := fun i => (H9.k (w.heap.size + 1)).fr i
          have hsuc := rowToJ_succ (rs := m.rows) (res := r) (k := k) (lv := lv) j256
          obtain ⟨C, hC⟩ : ∃ C, ceilRow (m.rows.take k) r j = C := ⟨_, rfl⟩
          rw [hC] at d0 hsuc
          replace hsuc := Lib.hid hsuc
          have d3 := d2 j
          clear d2
          have H10 : Hd w0 _ (wr.setCell ⟨w.heap.size + 1, j, none⟩ (.int .i64 (max C lv))).drew := H9.fol
          rw [heldA_set, hsuc.out] at H10
          go_wp2_with fail
          refine wp_region_mix 7 [(0, true), (1, true), (2, true), (3, true), (4, true), (5, true), (6, false)] (fun w' => w'.cell? ⟨w.heap.size + 1, j, none⟩ = some (.int .i64 C) ∧ w'.cell? ⟨xb, 1, none⟩ = some (.int .i64 lv)) (by kernel_rfl) (by kernel_rfl) (⟨d0, d1⟩) (fun _ _ d _ _ h => by cases d <;> exact h) ?_
          simp only [List.drop_succ_cons, List.drop_zero]
          iterate 6 (refine mix_head (o := _) (v := ?_) (by (simp only [List.getElem?_toArray, List.getElem?_cons_succ, List.getElem?_cons_zero]); rfl) (by rfl) (fun w' hS => ?_) ?_; rotate_left 1; (focus ((try dsimp only at hS); (try go_split_ands); go_simp; (try with_reducible rfl))); (try simp only [Act.put, List.setIfInBounds_toArray, List.set_cons_zero, List.set_cons_succ]))
          refine mix_mid (o := _) (by (simp only [List.getElem?_toArray, List.getElem?_cons_succ, List.getElem?_cons_zero]); rfl) ?_
          go_wp2_with fail
          refine mixQ_in ⟨d0, d1⟩ ?_
          refine mix_end ?_
          (try dsimp only)
          go_wp2_with fail
          go_roundw
          case rel => exact ⟨j + 1, by omega, by simp, H10.re⟩
          case measure => simp [intOf]; omega
        · obtain rfl : j = q := by omega
          rw [hdone.out] at H9
          go_wp2_with fail
          go_roundw
          case rel => exact ⟨k + 1, by omega, by simp, H9.re⟩
          case measure => simp [intOf]; omega
    · obtain rfl : k = M := by omega
      have hAs := rowTo_len m.rows r k
      obtain ⟨L, hL⟩ : ∃ L, rowTo m.rows r k = L := ⟨_, rfl⟩
      rw [hL] at hAs H5
      (try rw [hL])
      have h1 : wr.rangeAt (w.heap.size + 1) 0 (L.map (Value.int .i64)) := heldA_range H5
      have h2 : wr.cell? ⟨g, r, none⟩ = some (.int .i64 U) := by
        have h : Hd w0 (SlEC 3 g m.units.length m.units :: TkP t m S :: R) wr := by rw [hN]; exact H5.re
        have := h.slcC_rd (flat_at hr (j := 0) rfl)
        simpa only [Enc.size, Nat.mul_one, Nat.add_zero] using this
      obtain ⟨A, hA⟩ : ∃ A : Array Value, heldA L = A := ⟨_, rfl⟩
      have hone := Lib.hid (hA ▸ heldA_one L)
      have hAz := Lib.hid (show A.size = 256 by rw [← hA]; simp [heldA, hAs])
      have hAl := Lib.hid (show A = (L.map (Value.int .i64)).toArray from hA.symm)
      rw [hA] at H5
      have H6 : Hd w0 _ wr.drew := H5.fol
      replace hA := Lib.hid hA
      replace hAs := Lib.hid hAs
      replace hL := Lib.hid hL
      go_wp2_with fail
      refine wp_region_mix 6 [(0, true), (1, true), (2, true), (3, true), (4, true), (5, false)] (fun w' => w'.rangeAt (w.heap.size + 1) 0 (L.map (Value.int .i64)) ∧ w'.cell? ⟨g, r, none⟩ = some (.int .i64 U)) (by kernel_rfl) (by kernel_rfl) (⟨h1, h2⟩) (fun _ _ d _ _ h => by cases d <;> exact h) ?_
      simp only [List.drop_succ_cons, List.drop_zero]
      refine ⟨_, .agg A, (by rfl), (by rw [hAl.out]; exact yieldsIf_load_mid (by rfl) 299 _ rfl (w.heap.size + 1) 0 rfl (L.map (Value.int .i64)) _ (fun w' h => h.1) Tryz.underlying299 rfl (by rw [List.length_map, hAs.out]; kernel_rfl)), ?_⟩
      iterate 4 (refine mix_head (o := _) (v := ?_) (by (simp only [List.getElem?_toArray, List.getElem?_cons_succ, List.getElem?_cons_zero]); rfl) (by rfl) (fun w' hS => ?_) ?_; rotate_left 1; (focus ((try dsimp only at hS); (try go_split_ands); go_simp; (try with_reducible rfl))); (try simp only [Act.put, List.setIfInBounds_toArray]))
      refine mix_mid (o := _) (by (simp only [List.getElem?_toArray, List.getElem?_cons_succ, List.getElem?_cons_zero]); rfl) ?_
      go_wp2_with (first | ((refine wpList_store_all (cells := A) (H6.k w.heap.size) rfl 299 _ _ rfl rfl rfl (by rw [hAz.out]; kernel_rfl) (hZs.out.trans hAz.out.symm) hone.out ?_); intro w4 H9))
      have H9a : Hd w0 (cel (w.heap.size + 1) 299 (heldA L) :: R) w4 := by rw [hA.out]; exact H9.re
      have h3 : w4.rangeAt (w.heap.size + 1) 0 (L.map (Value.int .i64)) := heldA_range H9a
      have h4 : w4.cell? ⟨g, r, none⟩ = some (.int .i64 U) := by
        have h : Hd w0 (SlEC 3 g m.units.length m.units :: TkP t m S :: R) w4 := by rw [hN]; exact H9.re
        have := h.slcC_rd (flat_at hr (j := 0) rfl)
        simpa only [Enc.size, Nat.mul_one, Nat.add_zero] using this
      refine mixQ_in ⟨h3, h4⟩ ?_
      refine mix_end ?_
      (try dsimp only)
      go_wp2_with fail
      (try simp only [Exit.inBlock, Exit.then])
      refine bodyPost_ret (results_row_tmp rfl _ _ w.heap.size 299 A (0, 0) _ (by rfl) (by exact ((Hd.fol H9 : Hd w0 _ _).k w.heap.size).heap) Tryz.underlying299 rfl (by rw [hAz.out]; kernel_rfl)) rfl ⟨by rw [hM, hL.out, hA.out]; rfl, ?_⟩
      exact Hd.fin H9
end
end Go.Proofs.YtogcikilphakmaaGreatDoor
