/-
  Merged texts of one proof: Ins_name.
-/
import Derived.Lib.Overlaps
import Derived.Test.YtogcikilphakmaaGreatDoorG10
import Derived.Test.YtogcikilphakmaaGreatDoorG17
import Derived.Test.YtogcikilphakmaaGreatDoorG18

/-
  slices.Insert of one row of Table[string, keel/tasks.id] over the separation logic.
-/
namespace Go.Proofs.YtogcikilphakmaaGreatDoor
open Go.RowKit Spl

theorem infoR_name : (Tryz.prog.info? 196).map (fun i => (i.zero, i.size, i.bytes)) = some (some (.agg #[.string ⟨#[]⟩, .int .i64 0]), 2, 24) := by kernel_rfl
section
variable {w0 w : World} {R : List Pr} {v : Value} {l : List RowN} {nb : Nat}
theorem news_name {x : RowN} (H : Hd w0 (cel nb 196 #[.string x.k, .int .i64 x.i] :: R) w) : ∀ (j : Nat) (u : Value), [.string x.k, .int .i64 x.i][j]? = some u → w.cell? ((⟨nb, 0, none⟩ : Addr).add j) = some u := by
  intro j u hj
  rw [add0, H.rd]
  simpa using hj

set_option maxRecDepth 20000 in
set_option maxHeartbeats 1600000 in
/-- at the end -/
theorem insEnd_name {x : RowN} (H : Hd w0 (SlE 196 v l :: cel nb 196 #[.string x.k, .int .i64 x.i] :: R) w) (hn : l.length ≤ 100000) : Calls Tryz.prog 87 #[v, .int .i64 l.length, .slice (some ⟨nb, 0, none⟩) 1 1] w fun e w' =>
    ∃ v', e = .returned v' ∧ Hd w0 (SlE 196 v' (l ++ [x]) :: R) w' := by
  obtain ⟨i0, hi, hz0, hz1, hz2⟩ := info_parts infoR_name
  have hnews := Lib.hid (news_name H.b2)
  have hS : ∀ (v' : Value) (w' : World), Hd w0 (Slc 196 2 v' (l.length + 1) (flat l ++ [.string x.k, .int .i64 x.i]) :: cel nb 196 #[.string x.k, .int .i64 x.i] :: R) w' → Hd w0 (SlE 196 v' (l ++ [x]) :: R) w' := by
    intro v' w' h
    have e1 : (l ++ [x]).length = l.length + 1 := by simp
    have e2 : flat (l ++ [x]) = flat l ++ [.string x.k, .int .i64 x.i] := by rw [flat_append, flat_one]; rfl
    unfold SlE
    rw [e1, e2]
    exact h.b2.tail
  replace hS := Lib.hid hS
  replace hn := Lib.hid hn
  have hb1 : ([.string x.k, .int .i64 x.i] : List Value).length = 1 * 2 := rfl
  rcases H.slc with ⟨rfl, hl0, _, _⟩ | ⟨g, cap, rfl, _⟩
  · obtain rfl : l = [] := List.eq_nil_of_length_eq_zero hl0
    go_enter Tryz.func87, Tryz.ntmps87
    go_wp2_with (at_builtin; refine wpList_append_slc rfl _ _ 100 rfl 196 i0 _ 2 24 Tryz.underlying100 hi hz0 hz1 hz2 rfl _ _ _ rfl H ⟨nb, 0, none⟩ 1 1 [.string x.k, .int .i64 x.i] rfl rfl hnews.out (by simp [Value.oneCell']) (by unfold maxLen; simp) (by simp) ?_; intro v' w2 H3)
    go_ret
    exact ⟨_, rfl, hS.out _ _ H3⟩
  · go_enter Tryz.func87, Tryz.ntmps87
    go_wp2_with (at_builtin; refine wpList_append_slc rfl _ _ 100 rfl 196 i0 _ 2 24 Tryz.underlying100 hi hz0 hz1 hz2 rfl _ _ _ rfl H ⟨nb, 0, none⟩ 1 1 [.string x.k, .int .i64 x.i] rfl rfl hnews.out (by simp [Value.oneCell']) (by have := hn.out; unfold maxLen; omega) (by have := hn.out; omega) ?_; intro v' w2 H3)
    all_goals (go_ret; exact ⟨_, rfl, hS.out _ _ H3⟩)

theorem grownRow_name {e : TypeId} {g n m cap : Nat} {z : Array Value} {xs : List Value} {L : List Pr} (H : Hd w0 (SlcC e 2 g n cap (xs ++ (Builtin.zeroCells z m).toList) :: L) w) (hz : z.size = 2) (hm : 0 < m) :
    ∃ o1 o2 sp : List Value, o1.length = 2 ∧ o2.length = (m - 1) * 2 ∧ cap ≤ maxLen ∧ cap * 2 ≤ xs.length + m * 2 + sp.length ∧ Hd w0 (cel g e (xs ++ (o1 ++ (o2 ++ sp))).toArray :: L) w := by
  obtain ⟨_, _, h3, sp, h4, H1⟩ := H.slcC
  obtain ⟨Z, hZ⟩ : ∃ Z, Z = (Builtin.zeroCells z m).toList := ⟨_, rfl⟩
  rw [← hZ] at H1 h4
  have hl : Z.length = m * 2 := by rw [hZ, Array.length_toList, size_zeroCells, hz]
  refine ⟨Z.take 2, Z.drop 2, sp, by rw [List.length_take, hl]; omega, by rw [List.length_drop, hl]; omega, h3, by simp at h4; omega, ?_⟩
  have e1 : xs ++ (Z.take 2 ++ (Z.drop 2 ++ sp)) = xs ++ Z ++ sp := by rw [← List.append_assoc (Z.take 2), List.take_append_drop, List.append_assoc]
  rw [e1]
  exact H1
theorem split_name {i : Nat} {x : RowN} : (l.take i ++ x :: l.drop i).length = l.length + 1 := by
  simp
  omega
set_option maxRecDepth 20000 in
set_option maxHeartbeats 3200000 in
/-- in the middle, where there is room -/
theorem insMid_name {x : RowN} {i g cap : Nat} (H : Hd w0 (SlcC 196 2 g l.length cap (flat l) :: cel nb 196 #[.string x.k, .int .i64 x.i] :: R) w) (hn : l.length ≤ 100000) (hi : i < l.length) (hc : l.length + 1 ≤ cap) : Calls Tryz.prog 87 #[.slice (some ⟨g, 0, none⟩) l.length cap, .int .i64 i, .slice (some ⟨nb, 0, none⟩) 1 1] w fun e w' =>
    ∃ v', e = .returned v' ∧ Hd w0 (SlE 196 v' (l.take i ++ x :: l.drop i) :: R) w' := by
  obtain ⟨i0, hinf, hz0, hz1, hz2⟩ := info_parts infoR_name
  have n1 : ((i : Int) == l.length) = false := by rw [beq_eq_false_iff_ne]; omega
  have n2 : ¬ ((cap : Int) < (l.length : Int) + 1) := by omega
  have n3 : IntKind.i64.wrap ((l.length : Int) + 1) = (l.length : Int) + 1 := IntWalk.i64_in _ (by omega)
  have n4 : IntKind.i64.wrap ((i : Int) + 1) = (i : Int) + 1 := IntWalk.i64_in _ (by omega)
  have n5 : (i : Int) ≤ l.length := by omega
  have n6 : ¬ cap - i = 0 := by omega
  have n7 : ¬ cap - (i + 1) = 0 := by omega
  have n8 : (0 : Int) ≤ (i : Int) + 1 := by omega
  have n9 : ¬ cap = i + 1 := by omega
  have n10 : ¬ cap = i := by omega
  have n11 : (i : Int) ≤ (l.length : Int) + 1 := by omega
  obtain ⟨_, _, hcm, sp, hsp, H1⟩ := H.slcC
  have hfl := flat_len l
  simp only [Enc.size] at hfl
  obtain ⟨s0, s1, sp, rfl⟩ : ∃ s0 s1 sp', sp = s0 :: s1 :: sp' := by
    match sp, hsp with
    | [], h => simp [hfl] at h; omega
    | [a], h => simp [hfl] at h; omega
    | a :: b :: r, _ => exact ⟨a, b, r, rfl⟩
  have hHn := H.b2.heap
  have hne : nb ≠ g := H.ne0
  have hov : ∀ lb cb, (callFunc 122 #[.slice (some ⟨nb, 0, none⟩) 1 1, .slice (some ⟨g, (i + 1) * 2, none⟩) lb cb]).run Tryz.prog w = .ok (.value (.bool false)) w := fun lb cb => by
    rw [run_callFunc_extern Tryz.func122 (by kernel_rfl) (by kernel_rfl) (by kernel_rfl) (e := Extern.SlicesOverlaps.overlaps #[100, 100] #[4]) (by kernel_rfl),
      Lib.run_overlaps_apart w 100 4 196 Tryz.underlying100 2 (fun w => by simp [sizeOf, typeInfo, hinf, hz1]) ⟨nb, 0, none⟩ ⟨g, (i + 1) * 2, none⟩ 1 1 lb cb hne 196 196 2 _ (by simp [World.shape?, hHn]) (by unfold World.shape?; rw [H1.heap]) (by simp) (H.b2.fr 0) (H.b2.fr 2)]
    rfl
  obtain ⟨y, hy⟩ : ∃ y, l[i]? = some y := ⟨l[i], List.getElem?_eq_getElem hi⟩
  have ed : l.drop i = y :: l.drop (i + 1) := List.drop_eq_getElem?_toList_append.trans (by rw [hy]; rfl)
  have e0 : flat l = flat (l.take i) ++ (flat [y] ++ flat (l.drop (i + 1))) := by
    rw [← flat_append, ← flat_append, List.singleton_append, ← ed, List.take_append_drop]
  have ht : (flat (l.take i)).length = i * 2 := by rw [flat_len, List.length_take, Nat.min_eq_left (by omega)]; rfl
  have hd : (flat (l.drop i)).length = (l.length - i) * 2 := by rw [flat_len, List.length_drop]; rfl
  have hd1 : (flat (l.drop (i + 1))).length = (l.length - (i + 1)) * 2 := by rw [flat_len, List.length_drop]; rfl
  have hy2 : (flat [y]).length = 2 := by rw [flat_len]; rfl
  have hsrc : ∀ (j : Nat) (u : Value), (flat (l.drop i))[j]? = some u → w.cell? ((⟨g, i * 2, none⟩ : Addr).add j) = some u := by
    intro j u hj
    have hadd : (⟨g, i * 2, none⟩ : Addr).add j = ⟨g, i * 2 + j, none⟩ := by unfold Addr.add; split <;> simp_all
    rw [hadd, H1.rd]
    have e1 : flat l = flat (l.take i) ++ flat (l.drop i) := by rw [← flat_append, List.take_append_drop]
    simp only [List.getElem?_toArray]
    rw [List.getElem?_append_left (by have := lt_of_get? hj; omega), e1, List.getElem?_append_right (by omega), ht, Nat.add_sub_cancel_left]
    exact hj
  have erow : flat l ++ s0 :: s1 :: sp = (flat (l.take i) ++ flat [y]) ++ ((flat (l.drop (i + 1)) ++ [s0, s1]) ++ sp) := by rw [e0]; simp
  rw [erow] at H1
  have hk1 : Nat.min (l.length + 1 - i) (l.length + 1 - (i + 1)) = l.length - i := by simp only [Nat.min_def]; split <;> omega
  have hk1' : Nat.min (l.length + 1 - i) (l.length - i) = l.length - i := by simp only [Nat.min_def]; split <;> omega
  have hk2 : Nat.min 1 (l.length + 1 - i) = 1 := by simp only [Nat.min_def]; split <;> omega
  have hA := Lib.hid (And.intro ed (And.intro e0 (And.intro ht (And.intro hd (And.intro hd1 (And.intro hy2 (And.intro hn (And.intro hi (And.intro hc (And.intro hcm hsp))))))))))
  replace hsrc := Lib.hid hsrc
  replace hk1 := Lib.hid hk1
  replace hk1' := Lib.hid hk1'
  replace hk2 := Lib.hid hk2
  clear H ed e0 ht hd hd1 hy2 hcm hsp hfl hy erow hn hHn hne
  go_enter Tryz.func87, Tryz.ntmps87
  go_wp2_with fail
  refine wp_region_mix0 [(0, true), (1, true), (2, true), (3, true), (4, true), (5, true), (6, true), (7, true), (8, false)] (fun w' => True) (by kernel_rfl) (by kernel_rfl) (trivial) (fun _ _ d _ _ h => by cases d <;> exact h) ?_
  iterate 8 (refine mix_head (o := _) (v := ?_) (by (simp only [List.getElem?_toArray, List.getElem?_cons_succ, List.getElem?_cons_zero]); rfl) (by rfl) (fun w' hS => ?_) ?_; rotate_left 1; (focus ((try dsimp only at hS); (try go_split_ands); go_simp; (try with_reducible rfl))); (try simp only [Act.put, List.setIfInBounds_toArray, List.set_cons_zero, List.set_cons_succ]))
  refine mix_mid (o := _) (by (simp only [List.getElem?_toArray, List.getElem?_cons_succ, List.getElem?_cons_zero]); rfl) ?_
  refine wpList_copy_seg rfl _ _ 100 100 rfl 196 i0 2 Tryz.underlying100 hinf hz1 g ((i + 1) * 2) _ _ rfl ⟨g, i * 2, none⟩ _ _ rfl (l.length - i) hk1'.out (flat (l.drop i)) (Hd.fol H1) (by obtain ⟨-, -, a1, -, -, a2, -⟩ := hA.out; rw [List.length_append, a1, a2]; omega) (by obtain ⟨-, -, -, a1, a2, -, -, -⟩ := hA.out; rw [List.length_append, a1, a2]; simp; omega) hA.out.2.2.2.1 (by exact hsrc.out) (flat_oneCell _) ?_
  intro w2 H2
  have H3 : Hd w0 (cel g 196 (flat (l.take i) ++ (flat [y] ++ (flat (l.drop i) ++ sp))).toArray :: cel nb 196 #[.string x.k, .int .i64 x.i] :: R) w2 := by
    have := H2
    rw [List.append_assoc] at this
    exact this
  have hnews := Lib.hid (news_name H3.b2)
  clear H1 H2
  refine mixQ_in trivial ?_
  refine mix_end ?_
  (try dsimp only)
  go_wp2_with (refine wpList_copy_seg rfl _ _ 100 100 rfl 196 i0 2 Tryz.underlying100 hinf hz1 g (i * 2) _ _ rfl ⟨nb, 0, none⟩ _ _ rfl 1 hk2.out [.string x.k, .int .i64 x.i] H3 hA.out.2.2.1 hA.out.2.2.2.2.2.1 rfl hnews.out (by simp [Value.oneCell']) ?_; intro w3 H4)
  go_ret
  refine ⟨_, rfl, ?_⟩
  have e1 : flat (l.take i) ++ ([.string x.k, .int .i64 x.i] ++ (flat (l.drop i) ++ sp)) = flat (l.take i ++ x :: l.drop i) ++ sp := by
    rw [flat_append, flat_cons, List.append_assoc, List.append_assoc]
    rfl
  rw [e1] at H4
  obtain ⟨-, -, a1, a2, -, -, -, a3, a4, a5, a6⟩ := hA.out
  have hlen : (l.take i ++ x :: l.drop i).length = l.length + 1 := split_name
  have H5 := (Hd.slcC_mk (n := l.length + 1) (cap := cap) (size := 2) H4 (by rw [flat_len, hlen]; rfl) (by omega) a5 (by
    have b1 := a6
    rw [List.length_append, flat_len] at b1 ⊢
    rw [hlen]
    simp only [Enc.size, List.length_cons] at b1 ⊢
    omega)).slc_mk
  have H6 : Hd w0 (Slc 196 2 (.slice (some ⟨g, 0, none⟩) (l.length + 1) cap) (l.length + 1) (flat (l.take i ++ x :: l.drop i)) :: R) w3 := H5.b2.tail
  unfold SlE
  rw [hlen]
  exact H6

set_option maxRecDepth 20000 in
set_option maxHeartbeats 3200000 in
/-- in the middle, where there is no room -/
theorem insGrow_name {x : RowN} {i g cap : Nat} (H : Hd w0 (SlcC 196 2 g l.length cap (flat l) :: cel nb 196 #[.string x.k, .int .i64 x.i] :: R) w) (hn : l.length ≤ 100000) (hi : i < l.length) (hc : cap < l.length + 1) : Calls Tryz.prog 87 #[.slice (some ⟨g, 0, none⟩) l.length cap, .int .i64 i, .slice (some ⟨nb, 0, none⟩) 1 1] w fun e w' =>
    ∃ v', e = .returned v' ∧ Hd w0 (SlE 196 v' (l.take i ++ x :: l.drop i) :: R) w' := by
  obtain ⟨i0, hinf, hz0, hz1, hz2⟩ := info_parts infoR_name
  have hnc := H.slcC.2.1
  have n1 : ((i : Int) == l.length) = false := by rw [beq_eq_false_iff_ne]; omega
  have n2 : (cap : Int) < (l.length : Int) + 1 := by omega
  have n3 : IntKind.i64.wrap ((l.length : Int) + 1) = (l.length : Int) + 1 := IntWalk.i64_in _ (by omega)
  have n4 : IntKind.i64.wrap ((i : Int) + 1) = (i : Int) + 1 := IntWalk.i64_in _ (by omega)
  have n12 : IntKind.i64.wrap ((l.length : Int) + 1 - i) = ((l.length + 1 - i : Nat) : Int) := by rw [IntWalk.i64_in _ (by omega)]; omega
  have n5 : (i : Int) ≤ l.length := by omega
  have n5' : (i : Int) ≤ cap := by omega
  have n5'' : i ≤ cap := by omega
  have n8 : (0 : Int) ≤ (i : Int) + 1 := by omega
  have n11 : (i : Int) ≤ (l.length : Int) + 1 := by omega
  have n6 : ¬ cap - i = 0 := by omega
  have n10 : ¬ cap = i := by omega
  have ht : (flat (l.take i)).length = i * 2 := by rw [flat_len, List.length_take, Nat.min_eq_left (by omega)]; rfl
  have hd : (flat (l.drop i)).length = (l.length - i) * 2 := by rw [flat_len, List.length_drop]; rfl
  have e1 : flat l = flat (l.take i) ++ flat (l.drop i) := by rw [← flat_append, List.take_append_drop]
  have hpre : ∀ (j : Nat) (u : Value), (flat (l.take i))[j]? = some u → w.cell? ((⟨g, 0, none⟩ : Addr).add j) = some u := by
    intro j u hj
    rw [add0]
    exact H.slcC_rd (by rw [e1, List.getElem?_append_left (lt_of_get? hj)]; exact hj)
  have hsrc : ∀ {L : List Pr} {w1 : World}, Hd w0 (SlcC 196 2 g l.length cap (flat l) :: L) w1 → ∀ (j : Nat) (u : Value), (flat (l.drop i))[j]? = some u → w1.cell? ((⟨g, i * 2, none⟩ : Addr).add j) = some u := by
    intro L w1 H1 j u hj
    have hadd : (⟨g, i * 2, none⟩ : Addr).add j = ⟨g, i * 2 + j, none⟩ := by unfold Addr.add; split <;> simp_all
    rw [hadd]
    exact H1.slcC_rd (by rw [e1, List.getElem?_append_right (by omega), ht, Nat.add_sub_cancel_left]; exact hj)
  have hm : 0 < l.length + 1 - i := by omega
  have hg1 : cap < i + (l.length + 1 - i) := by omega
  have hg2 : (i + (l.length + 1 - i)) * 24 ≤ 140737488355328 := by omega
  have hsum : i + (l.length + 1 - i) = l.length + 1 := by omega
  have hk1' : Nat.min (l.length - i) (l.length - i) = l.length - i := Nat.min_self _
  have hk2 : Nat.min 1 (l.length + 1 - i) = 1 := by simp only [Nat.min_def]; split <;> omega
  have hA := Lib.hid (And.intro ht (And.intro hd (And.intro hpre (And.intro hg2 (And.intro hsum (And.intro hk1' (And.intro hk2 (And.intro hi (And.intro hm hg1)))))))))
  have hS := Lib.hid (And.intro @hsrc True.intro)
  clear ht hd e1 hpre hsrc hg2 hk1' hk2 hnc hm hg1 hn hsum
  go_enter Tryz.func87, Tryz.ntmps87
  go_wp2_with (first | (at_builtin; refine wpList_append_zeros_grow rfl _ _ 100 3 rfl 196 i0 _ 2 24 Tryz.underlying100 Tryz.underlying3 hinf hz0 hz1 hz2 rfl (by decide) (by decide) ⟨g, 0, none⟩ i cap rfl (flat (l.take i)) hA.out.1 hA.out.2.2.1 (l.length + 1 - i) _ rfl hA.out.2.2.2.2.2.2.2.2.1 hA.out.2.2.2.2.2.2.2.2.2 hA.out.2.2.2.1 H ?_; intro cap' w1 hcap H1; rw [hA.out.2.2.2.2.1] at hcap H1 ⊢; have n13 : ¬ cap' = i := (by omega); have n14 : ¬ cap' = i + 1 := (by omega); obtain ⟨o1, o2, sp, ho1, ho2, hcm, hsp, H2⟩ := grownRow_name H1 rfl hA.out.2.2.2.2.2.2.2.2.1; have hB := Lib.hid (And.intro ho1 (And.intro ho2 (And.intro hcm (And.intro hsp hcap)))); have hnews := Lib.hid (news_name (Hd.k nb H2)); clear ho1 ho2 hcm hsp H1 hcap) | (refine wpList_copy_seg rfl _ _ 100 100 rfl 196 i0 2 Tryz.underlying100 hinf hz1 w.heap.size (i * 2) _ _ rfl ⟨nb, 0, none⟩ _ _ rfl 1 hA.out.2.2.2.2.2.2.1 [.string x.k, .int .i64 x.i] H2 hA.out.1 hB.out.1 rfl hnews.out (by simp [Value.oneCell']) ?_; intro w2 H3))
  refine wp_region_mix0 [(0, true), (1, true), (2, true), (3, true), (4, true), (5, true), (6, true), (7, true), (8, false)] (fun w' => True) (by kernel_rfl) (by kernel_rfl) (trivial) (fun _ _ d _ _ h => by cases d <;> exact h) ?_
  iterate 8 (refine mix_head (o := _) (v := ?_) (by (simp only [List.getElem?_toArray, List.getElem?_cons_succ, List.getElem?_cons_zero]); rfl) (by rfl) (fun w' hS => ?_) ?_; rotate_left 1; (focus ((try dsimp only at hS); (try go_split_ands); go_simp; (try with_reducible rfl))); (try simp only [Act.put, List.setIfInBounds_toArray, List.set_cons_zero, List.set_cons_succ]))
  refine mix_mid (o := _) (by (simp only [List.getElem?_toArray, List.getElem?_cons_succ, List.getElem?_cons_zero]); rfl) ?_
  have H4 := H3
  rw [← List.append_assoc] at H4
  refine wpList_copy_seg rfl _ _ 100 100 rfl 196 i0 2 Tryz.underlying100 hinf hz1 w.heap.size ((i + 1) * 2) _ _ rfl ⟨g, i * 2, none⟩ _ _ rfl (l.length - i) hA.out.2.2.2.2.2.1 (flat (l.drop i)) (Hd.fol H4) (by have a1 := hA.out.1; rw [List.length_append, a1]; simp; omega) (by have a1 := hB.out.2.1; have a2 := hA.out.2.1; rw [a1, a2]; omega) hA.out.2.1 (by exact hS.out.1 ((Hd.fol H4 : Hd w0 _ _).k g)) (flat_oneCell _) ?_
  intro w3 H5
  refine mixQ_in trivial ?_
  refine mix_end ?_
  (try dsimp only)
  go_wp2_with fail
  go_ret
  refine ⟨_, rfl, ?_⟩
  have e1 : (flat (l.take i) ++ ([.string x.k, .int .i64 x.i] : List Value)) ++ (flat (l.drop i) ++ sp) = flat (l.take i ++ x :: l.drop i) ++ sp := by
    rw [flat_append, flat_cons, List.append_assoc, List.append_assoc, List.append_assoc]
    rfl
  rw [e1] at H5
  obtain ⟨a1, a2, -, -, a3, -, -, a4, -, -⟩ := hA.out
  obtain ⟨b1, b2, b3, b4, b5⟩ := hB.out
  have hlen : (l.take i ++ x :: l.drop i).length = l.length + 1 := split_name
  have H6 := (Hd.slcC_mk (n := l.length + 1) (cap := cap') (size := 2) H5 (by rw [flat_len, hlen]; rfl) b5 b3 (by
    rw [List.length_append, flat_len, hlen]
    simp only [Enc.size] at b4 ⊢
    omega)).slc_mk
  have H7 : Hd w0 (Slc 196 2 (.slice (some ⟨w.heap.size, 0, none⟩) (l.length + 1) cap') (l.length + 1) (flat (l.take i ++ x :: l.drop i)) :: R) w3 := H6.re
  unfold SlE
  rw [hlen]
  exact H7

theorem ins_name {x : RowN} {i : Nat} (H : Hd w0 (SlE 196 v l :: cel nb 196 #[.string x.k, .int .i64 x.i] :: R) w) (hn : l.length ≤ 100000) (hi : i ≤ l.length) : Calls Tryz.prog 87 #[v, .int .i64 i, .slice (some ⟨nb, 0, none⟩) 1 1] w fun e w' =>
    ∃ v', e = .returned v' ∧ Hd w0 (SlE 196 v' (l.take i ++ x :: l.drop i) :: R) w' := by
  by_cases h : i = l.length
  · subst h
    rw [List.take_length, List.drop_length]
    exact insEnd_name H hn
  · obtain ⟨g, cap, rfl, H1⟩ := H.slc_at (by omega)
    by_cases hc : l.length + 1 ≤ cap
    · exact insMid_name H1 hn (by omega) hc
    · exact insGrow_name H1 hn (by omega) (by omega)

variable {s o T : Nat} {C : Array Value}
theorem find_name (H : Hd w0 (cel s T C :: SlE 196 v l :: R) w) (hC : C[o]? = some v) (hs : Sorted l) (hn : l.length ≤ 100000) (k : ByteArray) : Calls Tryz.prog 86 #[.pointer (some ⟨s, o, none⟩), .string k] w fun e w' =>
    e = .returned (.tuple #[.int .i64 (pos l k), .bool (rowAt l k).isSome]) ∧ Hd w0 (cel s T C :: SlE 196 v l :: R) w' := by
  have c0 := H.ce o hC
  have hb := bs_name H.b2 hs hn k
  clear hs hn H hC
  go_enter Tryz.func86, Tryz.ntmps86
  go_wp2_with fail
  refine hb.mono ?_
  rintro e w' ⟨rfl, H1⟩
  go_wp2_with fail
  go_ret2
  exact ⟨rfl, H1.b2⟩
theorem get_name {x : RowN} (H : Hd w0 (cel s T C :: SlE 196 v l :: R) w) (hC : C[o]? = some v) (hs : Sorted l) (hn : l.length ≤ 100000) (k : ByteArray) (hx : rowAt l k = some x) : Calls Tryz.prog 79 #[.pointer (some ⟨s, o, none⟩), .string k] w fun e w' =>
    e = .returned (.tuple #[.int .i64 x.i, .bool true]) ∧ Hd w0 (cel s T C :: SlE 196 v l :: R) w' := by
  have hf := find_name H hC hs hn k
  rw [hx] at hf
  have hat := (rowAt_some hs hx).1
  have hlt := lt_of_get? hat
  have n1 : ¬ (((pos l k : Nat) : Int) < 0) := by omega
  have n2 : ((pos l k : Nat) : Int) < l.length := by omega
  have n3 : ¬ l.length ≤ pos l k := by omega
  clear hs hn H hx
  go_enter Tryz.func79, Tryz.ntmps79
  go_wp2_with fail
  refine hf.mono ?_
  rintro e w1 ⟨rfl, H1⟩
  obtain ⟨g, cap, rfl, H2⟩ := H1.b2.slc_at (by omega)
  have c0 := (H2.k s).ce o hC
  have c1 := H2.slcC_rd (flat_at hat (j := 1) rfl)
  simp only [Enc.size] at c1
  clear H2 hf
  go_wp2_with fail
  go_ret2
  exact ⟨rfl, H1⟩
theorem getNo_name (H : Hd w0 (cel s T C :: SlE 196 v l :: R) w) (hC : C[o]? = some v) (hs : Sorted l) (hn : l.length ≤ 100000) (k : ByteArray) (hx : rowAt l k = none) : Calls Tryz.prog 79 #[.pointer (some ⟨s, o, none⟩), .string k] w fun e w' =>
    e = .returned (.tuple #[.int .i64 0, .bool false]) ∧ Hd w0 (cel s T C :: SlE 196 v l :: R) w' := by
  have hf := find_name H hC hs hn k
  rw [hx] at hf
  clear hs hn H hx hC
  go_enter Tryz.func79, Tryz.ntmps79
  go_wp2_with fail
  refine hf.mono ?_
  rintro e w1 ⟨rfl, H1⟩
  go_wp2_with fail
  go_ret2
  exact ⟨rfl, H1⟩

/-- The rows with one more. -/
theorem setNew_name {x : RowN} (H : Hd w0 (cel s T C :: SlE 196 v l :: R) w) (hC : C[o]? = some v) (hs : Sorted l) (hn : l.length ≤ 100000) (hx : rowAt l x.k = none) : Calls Tryz.prog 52 #[.pointer (some ⟨s, o, none⟩), .string x.k, .int .i64 x.i] w fun e w' =>
    e = .returned (.bool true) ∧ ∃ v', Hd w0 (cel s T (C.setIfInBounds o v') :: SlE 196 v' (l.take (pos l x.k) ++ x :: l.drop (pos l x.k)) :: R) w' := by
  have hf := find_name H hC hs hn x.k
  rw [hx] at hf
  have hle := pos_le l x.k
  replace hn := Lib.hid hn
  replace hle := Lib.hid hle
  clear hs H hx
  go_enter Tryz.func52, Tryz.ntmps52
  go_wp2_with fail
  refine hf.mono ?_
  rintro e w1 ⟨rfl, H1⟩
  have HB : Hd w0 _ (w1.alloc (.cells #[.string x.k, .int .i64 x.i] 196)) := H1.fol
  have c0 := (H1.k s).ce o hC
  clear hf
  go_wp2_with fail
  refine (ins_name (x := x) (R := cel s T C :: R) ((HB.v v).k w1.heap.size).b2 hn.out hle.out).mono ?_
  rintro e w2 ⟨v', rfl, H2⟩
  obtain ⟨l', hl'⟩ : ∃ l', l' = l.take (pos l x.k) ++ x :: l.drop (pos l x.k) := ⟨_, rfl⟩
  rw [← hl'] at H2
  replace hl' := Lib.hid hl'
  obtain ⟨a', cap', rfl, -, -, -, -⟩ := H2.slc_form
  have c1 := (H2.k s).ce o hC
  have f1 := (H2.k s).fr o
  go_wp2_with fail
  go_ret
  refine ⟨rfl, .slice a' l'.length cap', ?_⟩
  rw [← hl'.out]
  exact (H2.k s).set o (.slice a' l'.length cap')
end
end Go.Proofs.YtogcikilphakmaaGreatDoor
