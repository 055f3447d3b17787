/-
  Merged texts of one proof: Tab_hold, Ins_hold, Del.
-/
import Derived.Lib.Overlaps
import Derived.Test.YtogcikilphakmaaGreatDoorG09
import Derived.Test.YtogcikilphakmaaGreatDoorG10

/-
  shelf.Table[int, *keel/units.holder] over the separation logic: where a key is or would be. Every table, every key.
-/
namespace Go.Proofs.YtogcikilphakmaaGreatDoor
open Go.RowKit Spl

section
variable {w0 w : World} {R : List Pr} {v : Value} {l : List RowH}
/-- how two keys compare -/
def cmp_hold (x : RowH) (k : Int) : Int := if KLt.lt x.k k then -1 else if KLt.lt k x.k then 1 else 0
theorem cmpf_hold (H : Hd w0 R w) (x : RowH) (k : Int) : Calls Tryz.prog 198 #[.agg #[.int .i64 x.k, .pointer (some ⟨x.b, 0, none⟩)], .int .i64 k] w fun e w' => e = .returned (.int .i64 (cmp_hold x k)) ∧ Hd w0 R w' := by
  have HA : Hd w0 _ (w.alloc (.cells #[.int .i64 x.k, .pointer (some ⟨x.b, 0, none⟩)] 267)) := H.fol
  unfold cmp_hold
  cases h1 : KLt.lt x.k k with
  | true =>
    have g1 : x.k < k := by simpa [KLt.lt] using h1
    rw [if_pos rfl]
    clear h1
    go_enter Tryz.func198, Tryz.ntmps198
    go_wp2
    go_ret
    exact ⟨rfl, HA.re⟩
  | false =>
    have g1 : ¬ (x.k < k) := by simpa [KLt.lt] using h1
    rw [if_neg (by simp)]
    cases h2 : KLt.lt k x.k with
    | true =>
      have g2 : x.k > k := by simpa [KLt.lt] using h2
      rw [if_pos rfl]
      clear h1 h2
      go_enter Tryz.func198, Tryz.ntmps198
      go_wp2
      go_ret
      exact ⟨rfl, HA.re⟩
    | false =>
      have g2 : ¬ (x.k > k) := by simpa [KLt.lt] using h2
      rw [if_neg (by simp)]
      clear h1 h2
      go_enter Tryz.func198, Tryz.ntmps198
      go_wp2
      go_ret
      exact ⟨rfl, HA.re⟩

set_option maxRecDepth 20000 in
set_option maxHeartbeats 1600000 in
theorem bs_hold (H : Hd w0 (SlE 267 v l :: R) w) (hs : Sorted l) (hn : l.length ≤ 100000) (k : Int) : Calls Tryz.prog 197 #[v, .int .i64 k, .func (.func 198) #[] #[]] w fun e w' =>
    e = .returned (.tuple #[.int .i64 (pos l k), .bool (rowAt l k).isSome]) ∧ Hd w0 (SlE 267 v l :: R) w' := by
  obtain ⟨a, cap, rfl, -, -, -, -⟩ := H.slc_form
  have hO := Lib.hid (And.intro H (And.intro hs hn))
  clear H hs hn
  go_enter Tryz.func197, Tryz.ntmps197
  go_wp2
  go_loopw [9, 10] (fun vi vj wr => ∃ i j : Nat, vi = .int .i64 i ∧ vj = .int .i64 j ∧ i ≤ pos l k ∧ pos l k ≤ j ∧ j ≤ l.length ∧ Hd w0 (SlE 267 (.slice a l.length cap) l :: R) wr) (fun vi vj _ => (intOf vj).toNat - (intOf vi).toNat)
  case atStart => exact ⟨0, l.length, rfl, rfl, Nat.zero_le _, pos_le l k, Nat.le_refl _, hO.out.1⟩
  case round =>
    obtain ⟨i, j, rfl, rfl, hi, hj, hjn, H⟩ := hrel
    by_cases hij : i < j
    · obtain ⟨h, hh⟩ : ∃ h : Nat, h = (i + j) / 2 := ⟨_, rfl⟩
      have hlo : i ≤ h := by omega
      have hhi : h < j := by omega
      have n1 : (i : Int) < j := by omega
      have f1 : wrap64 ((i : Int) + j) = (i : Int) + j := IntWalk.wrap64_in _ (by have := hO.out.2.2; omega)
      have f1' : IntKind.i64.wrap ((i : Int) + j) = (i : Int) + j := IntWalk.i64_in _ (by have := hO.out.2.2; omega)
      have f2 : IntKind.u64.wrap ((i : Int) + j) = (i : Int) + j := IntWalk.u64_in _ (by have := hO.out.2.2; omega)
      have f3 : wrap64 (((i : Int) + j) / 2) = h := by rw [IntWalk.wrap64_in _ (by have := hO.out.2.2; omega)]; omega
      have f3' : IntKind.i64.wrap (((i : Int) + j) / 2) = h := by rw [IntWalk.i64_in _ (by have := hO.out.2.2; omega)]; omega
      have f4 : IntKind.i64.wrap ((h : Int) + 1) = (h : Int) + 1 := IntWalk.i64_in _ (by have := hO.out.2.2; omega)
      have n2 : ¬ ((h : Int) < 0) := by omega
      have n3 : (h : Int) < l.length := by omega
      have n4 : ¬ l.length ≤ h := by omega
      obtain ⟨x, hx⟩ : ∃ x, l[h]? = some x := ⟨l[h]'(by omega), List.getElem?_eq_getElem _⟩
      obtain ⟨g, cap2, hv, H2⟩ := H.slc_at (by omega)
      injection hv with hv _ hv2
      subst hv hv2
      have c0 := H2.slcC_rd (flat_at hx (j := 0) rfl)
      have c1 := H2.slcC_rd (flat_at hx (j := 1) rfl)
      simp only [Enc.size, Nat.add_zero] at c0 c1
      have hcmp := cmpf_hold H x k
      have hX := Lib.hid (And.intro hx (And.intro hh (And.intro hi (And.intro hj (And.intro hjn (And.intro hlo hhi))))))
      clear H2 H hx hh hi hj hjn hlo hhi
      cases hlt : KLt.lt x.k k with
      | true =>
        have hn : cmp_hold x k < 0 := by simp [cmp_hold, hlt]
        have hp : h + 1 ≤ pos l k := by
          rcases Nat.lt_or_ge h (pos l k) with h1 | h1
          · omega
          · have := pos_ge hO.out.2.1 hX.out.1 h1
            exact absurd hlt (by rw [show KLt.lt x.k k = false from this]; simp)
        clear hlt
        go_wp2_with fail
        refine hcmp.mono ?_
        rintro e w2 ⟨rfl, H3⟩
        clear hcmp
        go_wp2_with fail
        go_roundw
        case rel => exact ⟨h + 1, j, rfl, rfl, hp, hX.out.2.2.2.1, hX.out.2.2.2.2.1, H3⟩
        case measure => have := hX.out; simp [intOf]; omega
      | false =>
        have hn : ¬ (cmp_hold x k < 0) := by
          unfold cmp_hold
          rw [hlt, if_neg (by simp)]
          split <;> omega
        have hp : pos l k ≤ h := by
          rcases Nat.lt_or_ge h (pos l k) with h1 | h1
          · have := pos_lt hX.out.1 h1
            exact absurd hlt (by rw [show KLt.lt x.k k = true from this]; simp)
          · exact h1
        clear hlt
        go_wp2_with fail
        refine hcmp.mono ?_
        rintro e w2 ⟨rfl, H3⟩
        clear hcmp
        go_wp2_with fail
        go_roundw
        case rel => exact ⟨i, h, rfl, rfl, hX.out.2.2.1, hp, by have := hX.out; omega, H3⟩
        case measure => have := hX.out; simp [intOf]; omega
    · have n1 : ¬ ((i : Int) < j) := by omega
      obtain rfl : i = pos l k := by omega
      by_cases hin : pos l k < l.length
      · have n2 : ¬ (((pos l k : Nat) : Int) < 0) := by omega
        have n3 : ((pos l k : Nat) : Int) < l.length := by omega
        have n4 : ¬ l.length ≤ pos l k := by omega
        obtain ⟨x, hx⟩ : ∃ x, l[pos l k]? = some x := ⟨l[pos l k]'(by omega), List.getElem?_eq_getElem _⟩
        obtain ⟨g, cap2, hv, H2⟩ := H.slc_at (by omega)
        injection hv with hv _ hv2
        subst hv hv2
        have c0 := H2.slcC_rd (flat_at hx (j := 0) rfl)
        have c1 := H2.slcC_rd (flat_at hx (j := 1) rfl)
        simp only [Enc.size, Nat.add_zero] at c0 c1
        have hcmp := cmpf_hold H x k
        have hf : KLt.lt x.k k = false := pos_ge hO.out.2.1 hx (Nat.le_refl _)
        have he : (rowAt l k).isSome = (cmp_hold x k == 0) := by
          unfold rowAt cmp_hold
          rw [hx, hf, if_neg (by simp)]
          show (if KLt.lt k x.k = true then none else some x).isSome = _
          cases KLt.lt k x.k <;> rfl
        replace he := Lib.hid he
        clear H2 H hx hf hi hj hjn hij hin
        go_wp2_with fail
        refine hcmp.mono ?_
        rintro e w2 ⟨rfl, H3⟩
        clear hcmp
        go_wp2_with fail
        go_ret2
        exact ⟨by rw [he.out]; rfl, H3⟩
      · have n3 : ¬ (((pos l k : Nat) : Int) < l.length) := by omega
        have he : (rowAt l k).isSome = false := by
          unfold rowAt
          rw [List.getElem?_eq_none (by omega)]
          rfl
        replace he := Lib.hid he
        clear hi hj hjn hij hin
        go_wp2_with fail
        go_ret2
        exact ⟨by rw [he.out]; rfl, H⟩
end
end Go.Proofs.YtogcikilphakmaaGreatDoor

/-
  slices.Insert of one row of Table[int, *keel/units.holder] over the separation logic.
-/
namespace Go.Proofs.YtogcikilphakmaaGreatDoor
open Go.RowKit Spl

theorem infoR_hold : (Tryz.prog.info? 267).map (fun i => (i.zero, i.size, i.bytes)) = some (some (.agg #[.int .i64 0, .pointer none]), 2, 16) := by kernel_rfl
section
variable {w0 w : World} {R : List Pr} {v : Value} {l : List RowH} {nb : Nat}
theorem news_hold {x : RowH} (H : Hd w0 (cel nb 267 #[.int .i64 x.k, .pointer (some ⟨x.b, 0, none⟩)] :: R) w) : ∀ (j : Nat) (u : Value), [.int .i64 x.k, .pointer (some ⟨x.b, 0, none⟩)][j]? = some u → w.cell? ((⟨nb, 0, none⟩ : Addr).add j) = some u := by
  intro j u hj
  rw [add0, H.rd]
  simpa using hj

set_option maxRecDepth 20000 in
set_option maxHeartbeats 1600000 in
/-- at the end -/
theorem insEnd_hold {x : RowH} (H : Hd w0 (SlE 267 v l :: cel nb 267 #[.int .i64 x.k, .pointer (some ⟨x.b, 0, none⟩)] :: R) w) (hn : l.length ≤ 100000) : Calls Tryz.prog 189 #[v, .int .i64 l.length, .slice (some ⟨nb, 0, none⟩) 1 1] w fun e w' =>
    ∃ v', e = .returned v' ∧ Hd w0 (SlE 267 v' (l ++ [x]) :: R) w' := by
  obtain ⟨i0, hi, hz0, hz1, hz2⟩ := info_parts infoR_hold
  have hnews := Lib.hid (news_hold H.b2)
  have hS : ∀ (v' : Value) (w' : World), Hd w0 (Slc 267 2 v' (l.length + 1) (flat l ++ [.int .i64 x.k, .pointer (some ⟨x.b, 0, none⟩)]) :: cel nb 267 #[.int .i64 x.k, .pointer (some ⟨x.b, 0, none⟩)] :: R) w' → Hd w0 (SlE 267 v' (l ++ [x]) :: R) w' := by
    intro v' w' h
    have e1 : (l ++ [x]).length = l.length + 1 := by simp
    have e2 : flat (l ++ [x]) = flat l ++ [.int .i64 x.k, .pointer (some ⟨x.b, 0, none⟩)] := by rw [flat_append, flat_one]; rfl
    unfold SlE
    rw [e1, e2]
    exact h.b2.tail
  replace hS := Lib.hid hS
  replace hn := Lib.hid hn
  have hb1 : ([.int .i64 x.k, .pointer (some ⟨x.b, 0, none⟩)] : List Value).length = 1 * 2 := rfl
  rcases H.slc with ⟨rfl, hl0, _, _⟩ | ⟨g, cap, rfl, _⟩
  · obtain rfl : l = [] := List.eq_nil_of_length_eq_zero hl0
    go_enter Tryz.func189, Tryz.ntmps189
    go_wp2_with (at_builtin; refine wpList_append_slc rfl _ _ 224 rfl 267 i0 _ 2 16 Tryz.underlying224 hi hz0 hz1 hz2 rfl _ _ _ rfl H ⟨nb, 0, none⟩ 1 1 [.int .i64 x.k, .pointer (some ⟨x.b, 0, none⟩)] rfl rfl hnews.out (by simp [Value.oneCell']) (by unfold maxLen; simp) (by simp) ?_; intro v' w2 H3)
    go_ret
    exact ⟨_, rfl, hS.out _ _ H3⟩
  · go_enter Tryz.func189, Tryz.ntmps189
    go_wp2_with (at_builtin; refine wpList_append_slc rfl _ _ 224 rfl 267 i0 _ 2 16 Tryz.underlying224 hi hz0 hz1 hz2 rfl _ _ _ rfl H ⟨nb, 0, none⟩ 1 1 [.int .i64 x.k, .pointer (some ⟨x.b, 0, none⟩)] rfl rfl hnews.out (by simp [Value.oneCell']) (by have := hn.out; unfold maxLen; omega) (by have := hn.out; omega) ?_; intro v' w2 H3)
    all_goals (go_ret; exact ⟨_, rfl, hS.out _ _ H3⟩)

theorem Hd.heap0 {e : TypeId} {size g n cap : Nat} {xs : List Value} {L : List Pr} (H : Hd w0 (SlcC e size g n cap xs :: L) w) : ∃ sp : List Value, w.heap[g]? = some (.cells (xs ++ sp).toArray e (0, 0)) := by
  obtain ⟨_, _, _, sp, _, H1⟩ := H.slcC
  exact ⟨sp, H1.heap⟩
theorem Hd.ne0 {e : TypeId} {size g n cap b : Nat} {o : Obj} {xs : List Value} {L : List Pr} (H : Hd w0 (SlcC e size g n cap xs :: pt b o :: L) w) : b ≠ g := by
  obtain ⟨_, _, _, sp, _, H1⟩ := H.slcC
  exact H1.b2.ne
theorem grownRow_hold {e : TypeId} {g n m cap : Nat} {z : Array Value} {xs : List Value} {L : List Pr} (H : Hd w0 (SlcC e 2 g n cap (xs ++ (Builtin.zeroCells z m).toList) :: L) w) (hz : z.size = 2) (hm : 0 < m) :
    ∃ o1 o2 sp : List Value, o1.length = 2 ∧ o2.length = (m - 1) * 2 ∧ cap ≤ maxLen ∧ cap * 2 ≤ xs.length + m * 2 + sp.length ∧ Hd w0 (cel g e (xs ++ (o1 ++ (o2 ++ sp))).toArray :: L) w := by
  obtain ⟨_, _, h3, sp, h4, H1⟩ := H.slcC
  obtain ⟨Z, hZ⟩ : ∃ Z, Z = (Builtin.zeroCells z m).toList := ⟨_, rfl⟩
  rw [← hZ] at H1 h4
  have hl : Z.length = m * 2 := by rw [hZ, Array.length_toList, size_zeroCells, hz]
  refine ⟨Z.take 2, Z.drop 2, sp, by rw [List.length_take, hl]; omega, by rw [List.length_drop, hl]; omega, h3, by simp at h4; omega, ?_⟩
  have e1 : xs ++ (Z.take 2 ++ (Z.drop 2 ++ sp)) = xs ++ Z ++ sp := by rw [← List.append_assoc (Z.take 2), List.take_append_drop, List.append_assoc]
  rw [e1]
  exact H1
theorem split_hold {i : Nat} {x : RowH} : (l.take i ++ x :: l.drop i).length = l.length + 1 := by
  simp
  omega
set_option maxRecDepth 20000 in
set_option maxHeartbeats 3200000 in
/-- in the middle, where there is room -/
theorem insMid_hold {x : RowH} {i g cap : Nat} (H : Hd w0 (SlcC 267 2 g l.length cap (flat l) :: cel nb 267 #[.int .i64 x.k, .pointer (some ⟨x.b, 0, none⟩)] :: R) w) (hn : l.length ≤ 100000) (hi : i < l.length) (hc : l.length + 1 ≤ cap) : Calls Tryz.prog 189 #[.slice (some ⟨g, 0, none⟩) l.length cap, .int .i64 i, .slice (some ⟨nb, 0, none⟩) 1 1] w fun e w' =>
    ∃ v', e = .returned v' ∧ Hd w0 (SlE 267 v' (l.take i ++ x :: l.drop i) :: R) w' := by
  obtain ⟨i0, hinf, hz0, hz1, hz2⟩ := info_parts infoR_hold
  have n1 : ((i : Int) == l.length) = false := by rw [beq_eq_false_iff_ne]; omega
  have n2 : ¬ ((cap : Int) < (l.length : Int) + 1) := by omega
  have n3 : IntKind.i64.wrap ((l.length : Int) + 1) = (l.length : Int) + 1 := IntWalk.i64_in _ (by omega)
  have n4 : IntKind.i64.wrap ((i : Int) + 1) = (i : Int) + 1 := IntWalk.i64_in _ (by omega)
  have n5 : (i : Int) ≤ l.length := by omega
  have n6 : ¬ cap - i = 0 := by omega
  have n7 : ¬ cap - (i + 1) = 0 := by omega
  have n8 : (0 : Int) ≤ (i : Int) + 1 := by omega
  have n9 : ¬ cap = i + 1 := by omega
  have n10 : ¬ cap = i := by omega
  have n11 : (i : Int) ≤ (l.length : Int) + 1 := by omega
  obtain ⟨_, _, hcm, sp, hsp, H1⟩ := H.slcC
  have hfl := flat_len l
  simp only [Enc.size] at hfl
  obtain ⟨s0, s1, sp, rfl⟩ : ∃ s0 s1 sp', sp = s0 :: s1 :: sp' := by
    match sp, hsp with
    | [], h => simp [hfl] at h; omega
    | [a], h => simp [hfl] at h; omega
    | a :: b :: r, _ => exact ⟨a, b, r, rfl⟩
  have hHn := H.b2.heap
  have hne : nb ≠ g := H.ne0
  have hov : ∀ lb cb, (callFunc 199 #[.slice (some ⟨nb, 0, none⟩) 1 1, .slice (some ⟨g, (i + 1) * 2, none⟩) lb cb]).run Tryz.prog w = .ok (.value (.bool false)) w := fun lb cb => by
    rw [run_callFunc_extern Tryz.func199 (by kernel_rfl) (by kernel_rfl) (by kernel_rfl) (e := Extern.SlicesOverlaps.overlaps #[224, 224] #[4]) (by kernel_rfl),
      Lib.run_overlaps_apart w 224 4 267 Tryz.underlying224 2 (fun w => by simp [sizeOf, typeInfo, hinf, hz1]) ⟨nb, 0, none⟩ ⟨g, (i + 1) * 2, none⟩ 1 1 lb cb hne 267 267 2 _ (by simp [World.shape?, hHn]) (by unfold World.shape?; rw [H1.heap]) (by simp) (H.b2.fr 0) (H.b2.fr 2)]
    rfl
  obtain ⟨y, hy⟩ : ∃ y, l[i]? = some y := ⟨l[i], List.getElem?_eq_getElem hi⟩
  have ed : l.drop i = y :: l.drop (i + 1) := List.drop_eq_getElem?_toList_append.trans (by rw [hy]; rfl)
  have e0 : flat l = flat (l.take i) ++ (flat [y] ++ flat (l.drop (i + 1))) := by
    rw [← flat_append, ← flat_append, List.singleton_append, ← ed, List.take_append_drop]
  have ht : (flat (l.take i)).length = i * 2 := by rw [flat_len, List.length_take, Nat.min_eq_left (by omega)]; rfl
  have hd : (flat (l.drop i)).length = (l.length - i) * 2 := by rw [flat_len, List.length_drop]; rfl
  have hd1 : (flat (l.drop (i + 1))).length = (l.length - (i + 1)) * 2 := by rw [flat_len, List.length_drop]; rfl
  have hy2 : (flat [y]).length = 2 := by rw [flat_len]; rfl
  have hsrc : ∀ (j : Nat) (u : Value), (flat (l.drop i))[j]? = some u → w.cell? ((⟨g, i * 2, none⟩ : Addr).add j) = some u := by
    intro j u hj
    have hadd : (⟨g, i * 2, none⟩ : Addr).add j = ⟨g, i * 2 + j, none⟩ := by unfold Addr.add; split <;> simp_all
    rw [hadd, H1.rd]
    have e1 : flat l = flat (l.take i) ++ flat (l.drop i) := by rw [← flat_append, List.take_append_drop]
    simp only [List.getElem?_toArray]
    rw [List.getElem?_append_left (by have := lt_of_get? hj; omega), e1, List.getElem?_append_right (by omega), ht, Nat.add_sub_cancel_left]
    exact hj
  have erow : flat l ++ s0 :: s1 :: sp = (flat (l.take i) ++ flat [y]) ++ ((flat (l.drop (i + 1)) ++ [s0, s1]) ++ sp) := by rw [e0]; simp
  rw [erow] at H1
  have hk1 : Nat.min (l.length + 1 - i) (l.length + 1 - (i + 1)) = l.length - i := by simp only [Nat.min_def]; split <;> omega
  have hk1' : Nat.min (l.length + 1 - i) (l.length - i) = l.length - i := by simp only [Nat.min_def]; split <;> omega
  have hk2 : Nat.min 1 (l.length + 1 - i) = 1 := by simp only [Nat.min_def]; split <;> omega
  have hA := Lib.hid (And.intro ed (And.intro e0 (And.intro ht (And.intro hd (And.intro hd1 (And.intro hy2 (And.intro hn (And.intro hi (And.intro hc (And.intro hcm hsp))))))))))
  replace hsrc := Lib.hid hsrc
  replace hk1 := Lib.hid hk1
  replace hk1' := Lib.hid hk1'
  replace hk2 := Lib.hid hk2
  clear H ed e0 ht hd hd1 hy2 hcm hsp hfl hy erow hn hHn hne
  go_enter Tryz.func189, Tryz.ntmps189
  go_wp2_with fail
  refine wp_region_mix0 [(0, true), (1, true), (2, true), (3, true), (4, true), (5, true), (6, true), (7, true), (8, false)] (fun w' => True) (by kernel_rfl) (by kernel_rfl) (trivial) (fun _ _ d _ _ h => by cases d <;> exact h) ?_
  iterate 8 (refine mix_head (o := _) (v := ?_) (by (simp only [List.getElem?_toArray, List.getElem?_cons_succ, List.getElem?_cons_zero]); rfl) (by rfl) (fun w' hS => ?_) ?_; rotate_left 1; (focus ((try dsimp only at hS); (try go_split_ands); go_simp; (try with_reducible rfl))); (try simp only [Act.put, List.setIfInBounds_toArray, List.set_cons_zero, List.set_cons_succ]))
  refine mix_mid (o := _) (by (simp only [List.getElem?_toArray, List.getElem?_cons_succ, List.getElem?_cons_zero]); rfl) ?_
  refine wpList_copy_seg rfl _ _ 224 224 rfl 267 i0 2 Tryz.underlying224 hinf hz1 g ((i + 1) * 2) _ _ rfl ⟨g, i * 2, none⟩ _ _ rfl (l.length - i) hk1'.out (flat (l.drop i)) (Hd.fol H1) (by obtain ⟨-, -, a1, -, -, a2, -⟩ := hA.out; rw [List.length_append, a1, a2]; omega) (by obtain ⟨-, -, -, a1, a2, -, -, -⟩ := hA.out; rw [List.length_append, a1, a2]; simp; omega) hA.out.2.2.2.1 (by exact hsrc.out) (flat_oneCell _) ?_
  intro w2 H2
  have H3 : Hd w0 (cel g 267 (flat (l.take i) ++ (flat [y] ++ (flat (l.drop i) ++ sp))).toArray :: cel nb 267 #[.int .i64 x.k, .pointer (some ⟨x.b, 0, none⟩)] :: R) w2 := by
    have := H2
    rw [List.append_assoc] at this
    exact this
  have hnews := Lib.hid (news_hold H3.b2)
  clear H1 H2
  refine mixQ_in trivial ?_
  refine mix_end ?_
  (try dsimp only)
  go_wp2_with (refine wpList_copy_seg rfl _ _ 224 224 rfl 267 i0 2 Tryz.underlying224 hinf hz1 g (i * 2) _ _ rfl ⟨nb, 0, none⟩ _ _ rfl 1 hk2.out [.int .i64 x.k, .pointer (some ⟨x.b, 0, none⟩)] H3 hA.out.2.2.1 hA.out.2.2.2.2.2.1 rfl hnews.out (by simp [Value.oneCell']) ?_; intro w3 H4)
  go_ret
  refine ⟨_, rfl, ?_⟩
  have e1 : flat (l.take i) ++ ([.int .i64 x.k, .pointer (some ⟨x.b, 0, none⟩)] ++ (flat (l.drop i) ++ sp)) = flat (l.take i ++ x :: l.drop i) ++ sp := by
    rw [flat_append, flat_cons, List.append_assoc, List.append_assoc]
    rfl
  rw [e1] at H4
  obtain ⟨-, -, a1, a2, -, -, -, a3, a4, a5, a6⟩ := hA.out
  have hlen : (l.take i ++ x :: l.drop i).length = l.length + 1 := split_hold
  have H5 := (Hd.slcC_mk (n := l.length + 1) (cap := cap) (size := 2) H4 (by rw [flat_len, hlen]; rfl) (by omega) a5 (by
    have b1 := a6
    rw [List.length_append, flat_len] at b1 ⊢
    rw [hlen]
    simp only [Enc.size, List.length_cons] at b1 ⊢
    omega)).slc_mk
  have H6 : Hd w0 (Slc 267 2 (.slice (some ⟨g, 0, none⟩) (l.length + 1) cap) (l.length + 1) (flat (l.take i ++ x :: l.drop i)) :: R) w3 := H5.b2.tail
  unfold SlE
  rw [hlen]
  exact H6

set_option maxRecDepth 20000 in
set_option maxHeartbeats 3200000 in
/-- in the middle, where there is no room -/
theorem insGrow_hold {x : RowH} {i g cap : Nat} (H : Hd w0 (SlcC 267 2 g l.length cap (flat l) :: cel nb 267 #[.int .i64 x.k, .pointer (some ⟨x.b, 0, none⟩)] :: R) w) (hn : l.length ≤ 100000) (hi : i < l.length) (hc : cap < l.length + 1) : Calls Tryz.prog 189 #[.slice (some ⟨g, 0, none⟩) l.length cap, .int .i64 i, .slice (some ⟨nb, 0, none⟩) 1 1] w fun e w' =>
    ∃ v', e = .returned v' ∧ Hd w0 (SlE 267 v' (l.take i ++ x :: l.drop i) :: R) w' := by
  obtain ⟨i0, hinf, hz0, hz1, hz2⟩ := info_parts infoR_hold
  have hnc := H.slcC.2.1
  have n1 : ((i : Int) == l.length) = false := by rw [beq_eq_false_iff_ne]; omega
  have n2 : (cap : Int) < (l.length : Int) + 1 := by omega
  have n3 : IntKind.i64.wrap ((l.length : Int) + 1) = (l.length : Int) + 1 := IntWalk.i64_in _ (by omega)
  have n4 : IntKind.i64.wrap ((i : Int) + 1) = (i : Int) + 1 := IntWalk.i64_in _ (by omega)
  have n12 : IntKind.i64.wrap ((l.length : Int) + 1 - i) = ((l.length + 1 - i : Nat) : Int) := by rw [IntWalk.i64_in _ (by omega)]; omega
  have n5 : (i : Int) ≤ l.length := by omega
  have n5' : (i : Int) ≤ cap := by omega
  have n5'' : i ≤ cap := by omega
  have n8 : (0 : Int) ≤ (i : Int) + 1 := by omega
  have n11 : (i : Int) ≤ (l.length : Int) + 1 := by omega
  have n6 : ¬ cap - i = 0 := by omega
  have n10 : ¬ cap = i := by omega
  have ht : (flat (l.take i)).length = i * 2 := by rw [flat_len, List.length_take, Nat.min_eq_left (by omega)]; rfl
  have hd : (flat (l.drop i)).length = (l.length - i) * 2 := by rw [flat_len, List.length_drop]; rfl
  have e1 : flat l = flat (l.take i) ++ flat (l.drop i) := by rw [← flat_append, List.take_append_drop]
  have hpre : ∀ (j : Nat) (u : Value), (flat (l.take i))[j]? = some u → w.cell? ((⟨g, 0, none⟩ : Addr).add j) = some u := by
    intro j u hj
    rw [add0]
    exact H.slcC_rd (by rw [e1, List.getElem?_append_left (lt_of_get? hj)]; exact hj)
  have hsrc : ∀ {L : List Pr} {w1 : World}, Hd w0 (SlcC 267 2 g l.length cap (flat l) :: L) w1 → ∀ (j : Nat) (u : Value), (flat (l.drop i))[j]? = some u → w1.cell? ((⟨g, i * 2, none⟩ : Addr).add j) = some u := by
    intro L w1 H1 j u hj
    have hadd : (⟨g, i * 2, none⟩ : Addr).add j = ⟨g, i * 2 + j, none⟩ := by unfold Addr.add; split <;> simp_all
    rw [hadd]
    exact H1.slcC_rd (by rw [e1, List.getElem?_append_right (by omega), ht, Nat.add_sub_cancel_left]; exact hj)
  have hm : 0 < l.length + 1 - i := by omega
  have hg1 : cap < i + (l.length + 1 - i) := by omega
  have hg2 : (i + (l.length + 1 - i)) * 16 ≤ 140737488355328 := by omega
  have hsum : i + (l.length + 1 - i) = l.length + 1 := by omega
  have hk1' : Nat.min (l.length - i) (l.length - i) = l.length - i := Nat.min_self _
  have hk2 : Nat.min 1 (l.length + 1 - i) = 1 := by simp only [Nat.min_def]; split <;> omega
  have hA := Lib.hid (And.intro ht (And.intro hd (And.intro hpre (And.intro hg2 (And.intro hsum (And.intro hk1' (And.intro hk2 (And.intro hi (And.intro hm hg1)))))))))
  have hS := Lib.hid (And.intro @hsrc True.intro)
  clear ht hd e1 hpre hsrc hg2 hk1' hk2 hnc hm hg1 hn hsum
  go_enter Tryz.func189, Tryz.ntmps189
  go_wp2_with (first | (at_builtin; refine wpList_append_zeros_grow rfl _ _ 224 3 rfl 267 i0 _ 2 16 Tryz.underlying224 Tryz.underlying3 hinf hz0 hz1 hz2 rfl (by decide) (by decide) ⟨g, 0, none⟩ i cap rfl (flat (l.take i)) hA.out.1 hA.out.2.2.1 (l.length + 1 - i) _ rfl hA.out.2.2.2.2.2.2.2.2.1 hA.out.2.2.2.2.2.2.2.2.2 hA.out.2.2.2.1 H ?_; intro cap' w1 hcap H1; rw [hA.out.2.2.2.2.1] at hcap H1 ⊢; have n13 : ¬ cap' = i := (by omega); have n14 : ¬ cap' = i + 1 := (by omega); obtain ⟨o1, o2, sp, ho1, ho2, hcm, hsp, H2⟩ := grownRow_hold H1 rfl hA.out.2.2.2.2.2.2.2.2.1; have hB := Lib.hid (And.intro ho1 (And.intro ho2 (And.intro hcm (And.intro hsp hcap)))); have hnews := Lib.hid (news_hold (Hd.k nb H2)); clear ho1 ho2 hcm hsp H1 hcap) | (refine wpList_copy_seg rfl _ _ 224 224 rfl 267 i0 2 Tryz.underlying224 hinf hz1 w.heap.size (i * 2) _ _ rfl ⟨nb, 0, none⟩ _ _ rfl 1 hA.out.2.2.2.2.2.2.1 [.int .i64 x.k, .pointer (some ⟨x.b, 0, none⟩)] H2 hA.out.1 hB.out.1 rfl hnews.out (by simp [Value.oneCell']) ?_; intro w2 H3))
  refine wp_region_mix0 [(0, true), (1, true), (2, true), (3, true), (4, true), (5, true), (6, true), (7, true), (8, false)] (fun w' => True) (by kernel_rfl) (by kernel_rfl) (trivial) (fun _ _ d _ _ h => by cases d <;> exact h) ?_
  iterate 8 (refine mix_head (o := _) (v := ?_) (by (simp only [List.getElem?_toArray, List.getElem?_cons_succ, List.getElem?_cons_zero]); rfl) (by rfl) (fun w' hS => ?_) ?_; rotate_left 1; (focus ((try dsimp only at hS); (try go_split_ands); go_simp; (try with_reducible rfl))); (try simp only [Act.put, List.setIfInBounds_toArray, List.set_cons_zero, List.set_cons_succ]))
  refine mix_mid (o := _) (by (simp only [List.getElem?_toArray, List.getElem?_cons_succ, List.getElem?_cons_zero]); rfl) ?_
  have H4 := H3
  rw [← List.append_assoc] at H4
  refine wpList_copy_seg rfl _ _ 224 224 rfl 267 i0 2 Tryz.underlying224 hinf hz1 w.heap.size ((i + 1) * 2) _ _ rfl ⟨g, i * 2, none⟩ _ _ rfl (l.length - i) hA.out.2.2.2.2.2.1 (flat (l.drop i)) (Hd.fol H4) (by have a1 := hA.out.1; rw [List.length_append, a1]; simp; omega) (by have a1 := hB.out.2.1; have a2 := hA.out.2.1; rw [a1, a2]; omega) hA.out.2.1 (by exact hS.out.1 ((Hd.fol H4 : Hd w0 _ _).k g)) (flat_oneCell _) ?_
  intro w3 H5
  refine mixQ_in trivial ?_
  refine mix_end ?_
  (try dsimp only)
  go_wp2_with fail
  go_ret
  refine ⟨_, rfl, ?_⟩
  have e1 : (flat (l.take i) ++ ([.int .i64 x.k, .pointer (some ⟨x.b, 0, none⟩)] : List Value)) ++ (flat (l.drop i) ++ sp) = flat (l.take i ++ x :: l.drop i) ++ sp := by
    rw [flat_append, flat_cons, List.append_assoc, List.append_assoc, List.append_assoc]
    rfl
  rw [e1] at H5
  obtain ⟨a1, a2, -, -, a3, -, -, a4, -, -⟩ := hA.out
  obtain ⟨b1, b2, b3, b4, b5⟩ := hB.out
  have hlen : (l.take i ++ x :: l.drop i).length = l.length + 1 := split_hold
  have H6 := (Hd.slcC_mk (n := l.length + 1) (cap := cap') (size := 2) H5 (by rw [flat_len, hlen]; rfl) b5 b3 (by
    rw [List.length_append, flat_len, hlen]
    simp only [Enc.size] at b4 ⊢
    omega)).slc_mk
  have H7 : Hd w0 (Slc 267 2 (.slice (some ⟨w.heap.size, 0, none⟩) (l.length + 1) cap') (l.length + 1) (flat (l.take i ++ x :: l.drop i)) :: R) w3 := H6.re
  unfold SlE
  rw [hlen]
  exact H7

theorem ins_hold {x : RowH} {i : Nat} (H : Hd w0 (SlE 267 v l :: cel nb 267 #[.int .i64 x.k, .pointer (some ⟨x.b, 0, none⟩)] :: R) w) (hn : l.length ≤ 100000) (hi : i ≤ l.length) : Calls Tryz.prog 189 #[v, .int .i64 i, .slice (some ⟨nb, 0, none⟩) 1 1] w fun e w' =>
    ∃ v', e = .returned v' ∧ Hd w0 (SlE 267 v' (l.take i ++ x :: l.drop i) :: R) w' := by
  by_cases h : i = l.length
  · subst h
    rw [List.take_length, List.drop_length]
    exact insEnd_hold H hn
  · obtain ⟨g, cap, rfl, H1⟩ := H.slc_at (by omega)
    by_cases hc : l.length + 1 ≤ cap
    · exact insMid_hold H1 hn (by omega) hc
    · exact insGrow_hold H1 hn (by omega) (by omega)

variable {s o T : Nat} {C : Array Value}
theorem find_hold (H : Hd w0 (cel s T C :: SlE 267 v l :: R) w) (hC : C[o]? = some v) (hs : Sorted l) (hn : l.length ≤ 100000) (k : Int) : Calls Tryz.prog 188 #[.pointer (some ⟨s, o, none⟩), .int .i64 k] w fun e w' =>
    e = .returned (.tuple #[.int .i64 (pos l k), .bool (rowAt l k).isSome]) ∧ Hd w0 (cel s T C :: SlE 267 v l :: R) w' := by
  have c0 := H.ce o hC
  have hb := bs_hold H.b2 hs hn k
  clear hs hn H hC
  go_enter Tryz.func188, Tryz.ntmps188
  go_wp2_with fail
  refine hb.mono ?_
  rintro e w' ⟨rfl, H1⟩
  go_wp2_with fail
  go_ret2
  exact ⟨rfl, H1.b2⟩
theorem get_hold {x : RowH} (H : Hd w0 (cel s T C :: SlE 267 v l :: R) w) (hC : C[o]? = some v) (hs : Sorted l) (hn : l.length ≤ 100000) (k : Int) (hx : rowAt l k = some x) : Calls Tryz.prog 175 #[.pointer (some ⟨s, o, none⟩), .int .i64 k] w fun e w' =>
    e = .returned (.tuple #[.pointer (some ⟨x.b, 0, none⟩), .bool true]) ∧ Hd w0 (cel s T C :: SlE 267 v l :: R) w' := by
  have hf := find_hold H hC hs hn k
  rw [hx] at hf
  have hat := (rowAt_some hs hx).1
  have hlt := lt_of_get? hat
  have n1 : ¬ (((pos l k : Nat) : Int) < 0) := by omega
  have n2 : ((pos l k : Nat) : Int) < l.length := by omega
  have n3 : ¬ l.length ≤ pos l k := by omega
  clear hs hn H hx
  go_enter Tryz.func175, Tryz.ntmps175
  go_wp2_with fail
  refine hf.mono ?_
  rintro e w1 ⟨rfl, H1⟩
  obtain ⟨g, cap, rfl, H2⟩ := H1.b2.slc_at (by omega)
  have c0 := (H2.k s).ce o hC
  have c1 := H2.slcC_rd (flat_at hat (j := 1) rfl)
  simp only [Enc.size] at c1
  clear H2 hf
  go_wp2_with fail
  go_ret2
  exact ⟨rfl, H1⟩
theorem getNo_hold (H : Hd w0 (cel s T C :: SlE 267 v l :: R) w) (hC : C[o]? = some v) (hs : Sorted l) (hn : l.length ≤ 100000) (k : Int) (hx : rowAt l k = none) : Calls Tryz.prog 175 #[.pointer (some ⟨s, o, none⟩), .int .i64 k] w fun e w' =>
    e = .returned (.tuple #[.pointer none, .bool false]) ∧ Hd w0 (cel s T C :: SlE 267 v l :: R) w' := by
  have hf := find_hold H hC hs hn k
  rw [hx] at hf
  clear hs hn H hx hC
  go_enter Tryz.func175, Tryz.ntmps175
  go_wp2_with fail
  refine hf.mono ?_
  rintro e w1 ⟨rfl, H1⟩
  go_wp2_with fail
  go_ret2
  exact ⟨rfl, H1⟩

/-- The rows with one more. -/
theorem setNew_hold {x : RowH} (H : Hd w0 (cel s T C :: SlE 267 v l :: R) w) (hC : C[o]? = some v) (hs : Sorted l) (hn : l.length ≤ 100000) (hx : rowAt l x.k = none) : Calls Tryz.prog 176 #[.pointer (some ⟨s, o, none⟩), .int .i64 x.k, .pointer (some ⟨x.b, 0, none⟩)] w fun e w' =>
    e = .returned (.bool true) ∧ ∃ v', Hd w0 (cel s T (C.setIfInBounds o v') :: SlE 267 v' (l.take (pos l x.k) ++ x :: l.drop (pos l x.k)) :: R) w' := by
  have hf := find_hold H hC hs hn x.k
  rw [hx] at hf
  have hle := pos_le l x.k
  replace hn := Lib.hid hn
  replace hle := Lib.hid hle
  clear hs H hx
  go_enter Tryz.func176, Tryz.ntmps176
  go_wp2_with fail
  refine hf.mono ?_
  rintro e w1 ⟨rfl, H1⟩
  have HB : Hd w0 _ (w1.alloc (.cells #[.int .i64 x.k, .pointer (some ⟨x.b, 0, none⟩)] 267)) := H1.fol
  have c0 := (H1.k s).ce o hC
  clear hf
  go_wp2_with fail
  refine (ins_hold (x := x) (R := cel s T C :: R) ((HB.v v).k w1.heap.size).b2 hn.out hle.out).mono ?_
  rintro e w2 ⟨v', rfl, H2⟩
  obtain ⟨l', hl'⟩ : ∃ l', l' = l.take (pos l x.k) ++ x :: l.drop (pos l x.k) := ⟨_, rfl⟩
  rw [← hl'] at H2
  replace hl' := Lib.hid hl'
  obtain ⟨a', cap', rfl, -, -, -, -⟩ := H2.slc_form
  have c1 := (H2.k s).ce o hC
  have f1 := (H2.k s).fr o
  go_wp2_with fail
  go_ret
  refine ⟨rfl, .slice a' l'.length cap', ?_⟩
  rw [← hl'.out]
  exact (H2.k s).set o (.slice a' l'.length cap')
end
end Go.Proofs.YtogcikilphakmaaGreatDoor

/-
  slices.Delete of one row of Table[int, *units.holder] over the separation logic.
-/
namespace Go.Proofs.YtogcikilphakmaaGreatDoor
open Go.RowKit Spl

section
variable {w0 w : World} {R : List Pr} {v : Value} {l : List RowH}
set_option maxRecDepth 20000 in
set_option maxHeartbeats 3200000 in
/-- the last one of a full row -/
theorem delFull_hold {g n : Nat} {y : RowH} (hl : l.length = n) (H : Hd w0 (SlcC 267 2 g (n + 1) (n + 1) (flat (l ++ [y])) :: R) w) (hn : n ≤ 100000) : Calls Tryz.prog 201 #[.slice (some ⟨g, 0, none⟩) (n + 1) (n + 1), .int .i64 n, .int .i64 ((n : Int) + 1)] w fun e w' =>
    ∃ v', e = .returned v' ∧ Hd w0 (SlE 267 v' l :: R) w' := by
  obtain ⟨i0, hinf, hz0, hz1, hz2⟩ := info_parts infoR_hold
  obtain ⟨_, _, hcm, sp, hsp, H1⟩ := H.slcC
  have n1 : ((n : Int) == (n : Int) + 1) = false := by rw [beq_eq_false_iff_ne]; omega
  have n2 : (0 : Int) ≤ (n : Int) + 1 := by omega
  have n3 : (n : Int) ≤ (n : Int) + 1 := by omega
  have ht : (flat l).length = n * 2 := by rw [flat_len, hl]; rfl
  have hy2 : (flat [y]).length = 1 * 2 := by rw [flat_len]; rfl
  have H2 : Hd w0 (cel g 267 (flat l ++ (([] : List Value) ++ (flat [y] ++ sp))).toArray :: R) w := by
    rw [flat_append, List.append_assoc] at H1
    exact H1
  have hA := Lib.hid (And.intro hcm (And.intro hsp (And.intro ht (And.intro hy2 (And.intro hl hn)))))
  clear H H1 hcm hsp ht hy2 hn hl
  go_enter Tryz.func201, Tryz.ntmps201
  go_wp2_with fail
  refine wp_region_mix0 [(0, true), (1, true), (2, true), (3, true), (4, true), (5, true), (6, false), (7, true)] (fun w' => True) (by kernel_rfl) (by kernel_rfl) (trivial) (fun _ _ d _ _ h => by cases d <;> exact h) ?_
  iterate 6 (refine mix_head (o := _) (v := ?_) (by (simp only [List.getElem?_toArray, List.getElem?_cons_succ, List.getElem?_cons_zero]); rfl) (by rfl) (fun w' hS => ?_) ?_; rotate_left 1; (focus ((try dsimp only at hS); (try go_split_ands); go_simp; (try with_reducible rfl))); (try simp only [Act.put, List.setIfInBounds_toArray, List.set_cons_zero, List.set_cons_succ]))
  refine mix_mid (o := _) (by (simp only [List.getElem?_toArray, List.getElem?_cons_succ, List.getElem?_cons_zero]); rfl) ?_
  refine wpList_append_seg rfl _ _ 224 rfl 267 i0 2 Tryz.underlying224 hinf hz1 g n (n + 1) rfl ⟨g, 0, none⟩ 0 _ rfl (by omega) [] (Hd.fol H2) hA.out.2.2.1 rfl rfl (by simp) (by simp) ?_
  intro w2 H3
  refine mixQ_in trivial ?_
  iterate 1 (refine mix_head (o := _) (v := ?_) (by (simp only [List.getElem?_toArray, List.getElem?_cons_succ, List.getElem?_cons_zero]); rfl) (by rfl) (fun w' hS => ?_) ?_; rotate_left 1; (focus ((try dsimp only at hS); (try go_split_ands); go_simp; (try with_reducible rfl))); (try simp only [Act.put, List.setIfInBounds_toArray, List.set_cons_zero, List.set_cons_succ]))
  refine mix_end ?_
  (try dsimp only)
  rw [List.nil_append] at H3
  go_wp2_with (refine wpList_clear_seg rfl _ 224 rfl 267 i0 _ 2 Tryz.underlying224 hinf hz0 rfl (by simp [Value.cells, Value.oneCell']) g (n * 2) 1 _ rfl (by decide) H3 hA.out.2.2.1 hA.out.2.2.2.1 ?_; intro w3 H4)
  go_ret
  refine ⟨_, rfl, ?_⟩
  obtain ⟨a1, a2, a3, a4, a5, -⟩ := hA.out
  have hz : (Builtin.zeroCells (Value.agg #[Value.int IntKind.i64 0, Value.pointer none]).cells 1).toList.length = 2 := by rw [Array.length_toList, size_zeroCells]; rfl
  have H5 := (Hd.slcC_mk (n := n) (cap := n + 1) (size := 2) H4 a3 (by omega) a1 (by
    rw [List.length_append, flat_append, List.length_append, a3, a4] at a2
    rw [List.length_append, List.length_append, a3, hz]
    omega)).slc_mk
  unfold SlE
  rw [a5]
  exact H5
set_option maxRecDepth 20000 in
set_option maxHeartbeats 3200000 in
theorem del_hold {i g cap : Nat} (H : Hd w0 (SlcC 267 2 g l.length cap (flat l) :: R) w) (hn : l.length ≤ 100000) (hi : i < l.length) : Calls Tryz.prog 201 #[.slice (some ⟨g, 0, none⟩) l.length cap, .int .i64 i, .int .i64 ((i : Int) + 1)] w fun e w' =>
    ∃ v', e = .returned v' ∧ Hd w0 (SlE 267 v' (l.eraseIdx i) :: R) w' := by
  by_cases n8 : cap = i + 1
  · subst n8
    have hlen : l.length = i + 1 := by have := H.slcC.2.1; omega
    rcases nil_or_snoc l with rfl | ⟨init, y, rfl⟩
    · simp at hi
    · have hi2 : init.length = i := by rw [List.length_append] at hlen; exact Nat.succ.inj hlen
      have he : (init ++ [y]).eraseIdx i = init := by rw [List.eraseIdx_append_of_length_le (by omega), hi2, Nat.sub_self]; exact List.append_nil init
      rw [hlen] at H
      rw [hlen, he]
      exact delFull_hold hi2 H (by omega)
  obtain ⟨i0, hinf, hz0, hz1, hz2⟩ := info_parts infoR_hold
  obtain ⟨_, hnc, hcm, sp, hsp, H1⟩ := H.slcC
  have n1 : ((i : Int) == (i : Int) + 1) = false := by rw [beq_eq_false_iff_ne]; omega
  have n2 : (0 : Int) ≤ (i : Int) + 1 := by omega
  have n3 : (i : Int) ≤ (i : Int) + 1 := by omega
  have n4 : (i : Int) + 1 ≤ l.length := by omega
  have n5 : (i : Int) ≤ cap := by omega
  have n6 : ¬ cap = i := by omega
  have n7 : (l.length : Int) ≤ cap := by omega
  have ht : (flat (l.take i)).length = i * 2 := by rw [flat_len, List.length_take, Nat.min_eq_left (by omega)]; rfl
  have hd : (flat (l.drop i)).length = (l.length - i) * 2 := by rw [flat_len, List.length_drop]; rfl
  have hd1 : (flat (l.drop (i + 1))).length = (l.length - (i + 1)) * 2 := by rw [flat_len, List.length_drop]; rfl
  have ht1 : (flat (l.take (i + 1))).length = (i + 1) * 2 := by rw [flat_len, List.length_take, Nat.min_eq_left (by omega)]; rfl
  have e1 : flat l = flat (l.take i) ++ flat (l.drop i) := by rw [← flat_append, List.take_append_drop]
  have e2 : flat l = flat (l.take (i + 1)) ++ flat (l.drop (i + 1)) := by rw [← flat_append, List.take_append_drop]
  obtain ⟨o1, o2, ho, ho1, ho2⟩ : ∃ o1 o2 : List Value, flat (l.drop i) = o1 ++ o2 ∧ o1.length = (l.length - (i + 1)) * 2 ∧ o2.length = 2 :=
    ⟨(flat (l.drop i)).take ((l.length - (i + 1)) * 2), (flat (l.drop i)).drop ((l.length - (i + 1)) * 2), (List.take_append_drop _ _).symm, by rw [List.length_take, hd]; omega, by rw [List.length_drop, hd]; omega⟩
  have hsrc : ∀ (j : Nat) (u : Value), (flat (l.drop (i + 1)))[j]? = some u → w.cell? ((⟨g, (i + 1) * 2, none⟩ : Addr).add j) = some u := by
    intro j u hj
    have hadd : (⟨g, (i + 1) * 2, none⟩ : Addr).add j = ⟨g, (i + 1) * 2 + j, none⟩ := by unfold Addr.add; split <;> simp_all
    rw [hadd]
    exact H.slcC_rd (by rw [e2, List.getElem?_append_right (by omega), ht1, Nat.add_sub_cancel_left]; exact hj)
  have H2 : Hd w0 (cel g 267 (flat (l.take i) ++ (o1 ++ (o2 ++ sp))).toArray :: R) w := by
    have h := H1
    rw [e1, ho, List.append_assoc, List.append_assoc] at h
    exact h
  have hA := Lib.hid (And.intro hcm (And.intro hsp (And.intro hn (And.intro hi (And.intro hnc (And.intro ht (And.intro hd1 (And.intro ho1 (And.intro ho2 hsrc)))))))))
  have f1 : i + (l.length - (i + 1)) = l.length - 1 := by omega
  have f2 : ((l.length - 1 : Nat) : Int) ≤ l.length := by omega
  have f3 : ¬ cap = l.length - 1 := by omega
  have f4 : l.length - (l.length - 1) = 1 := by omega
  have f5 : ((l.length - 1 : Nat) : Int) ≤ cap := by omega
  clear H H1 hcm hsp hn ht hd hd1 ht1 e1 e2 ho ho1 ho2 hsrc
  · go_enter Tryz.func201, Tryz.ntmps201
    go_wp2_with fail
    refine wp_region_mix0 [(0, true), (1, true), (2, true), (3, true), (4, true), (5, true), (6, false), (7, true)] (fun w' => True) (by kernel_rfl) (by kernel_rfl) (trivial) (fun _ _ d _ _ h => by cases d <;> exact h) ?_
    iterate 6 (refine mix_head (o := _) (v := ?_) (by (simp only [List.getElem?_toArray, List.getElem?_cons_succ, List.getElem?_cons_zero]); rfl) (by rfl) (fun w' hS => ?_) ?_; rotate_left 1; (focus ((try dsimp only at hS); (try go_split_ands); go_simp; (try with_reducible rfl))); (try simp only [Act.put, List.setIfInBounds_toArray, List.set_cons_zero, List.set_cons_succ]))
    refine mix_mid (o := _) (by (simp only [List.getElem?_toArray, List.getElem?_cons_succ, List.getElem?_cons_zero]); rfl) ?_
    refine wpList_append_seg rfl _ _ 224 rfl 267 i0 2 Tryz.underlying224 hinf hz1 g i cap rfl ⟨g, (i + 1) * 2, none⟩ (l.length - (i + 1)) _ rfl (by have := hA.out.2.2.2.2.1; omega) (flat (l.drop (i + 1))) (Hd.fol H2) hA.out.2.2.2.2.2.1 (by rw [hA.out.2.2.2.2.2.2.2.1, hA.out.2.2.2.2.2.2.1]) hA.out.2.2.2.2.2.2.1 (by exact hA.out.2.2.2.2.2.2.2.2.2) (flat_oneCell _) ?_
    intro w2 H3
    rw [f1]
    refine mixQ_in trivial ?_
    iterate 1 (refine mix_head (o := _) (v := ?_) (by (simp only [List.getElem?_toArray, List.getElem?_cons_succ, List.getElem?_cons_zero]); rfl) (by rfl) (fun w' hS => ?_) ?_; rotate_left 1; (focus ((try dsimp only at hS); (try go_split_ands); go_simp; (try with_reducible rfl))); (try simp only [Act.put, List.setIfInBounds_toArray, List.set_cons_zero, List.set_cons_succ]))
    refine mix_end ?_
    (try dsimp only)
    rw [← List.append_assoc] at H3
    go_wp2_with (refine wpList_clear_seg rfl _ 224 rfl 267 i0 _ 2 Tryz.underlying224 hinf hz0 rfl (by simp [Value.cells, Value.oneCell']) g ((l.length - 1) * 2) 1 _ rfl (by decide) H3 (by have a1 := hA.out.2.2.2.2.2.1; have a2 := hA.out.2.2.2.2.2.2.1; rw [List.length_append, a1, a2]; omega) hA.out.2.2.2.2.2.2.2.2.1 ?_; intro w3 H4)
    go_ret
    refine ⟨_, rfl, ?_⟩
    obtain ⟨a1, a2, -, -, -, a3, a4, a5, a6, -⟩ := hA.out
    have hlen : (l.eraseIdx i).length = l.length - 1 := by rw [List.length_eraseIdx, if_pos hi]
    have e3 : flat (l.take i) ++ flat (l.drop (i + 1)) = flat (l.eraseIdx i) := by rw [← flat_append, List.eraseIdx_eq_take_drop_succ]
    rw [e3] at H4
    have H5 := (Hd.slcC_mk (n := l.length - 1) (cap := cap) (size := 2) H4 (by rw [flat_len, hlen]; rfl) (by omega) a1 (by
      rw [List.length_append, flat_len] at a2
      have hz : (Builtin.zeroCells (Value.agg #[Value.int IntKind.i64 0, Value.pointer none]).cells 1).toList.length = 2 := by rw [Array.length_toList, size_zeroCells]; rfl
      rw [List.length_append, List.length_append, flat_len, hlen, hz]
      simp only [Enc.size] at a2 ⊢
      omega)).slc_mk
    unfold SlE
    rw [hlen]
    exact H5

variable {s o T : Nat} {C : Array Value}
theorem delK_hold {x : RowH} {k : Int} (H : Hd w0 (cel s T C :: SlE 267 v l :: R) w) (hC : C[o]? = some v) (hs : Sorted l) (hn : l.length ≤ 100000) (hx : rowAt l k = some x) : Calls Tryz.prog 193 #[.pointer (some ⟨s, o, none⟩), .int .i64 k] w fun e w' =>
    e = .returned (.bool true) ∧ ∃ v', Hd w0 (cel s T (C.setIfInBounds o v') :: SlE 267 v' (l.eraseIdx (pos l k)) :: R) w' := by
  have hf := find_hold H hC hs hn k
  rw [hx] at hf
  have hlt := lt_of_get? (rowAt_some hs hx).1
  have n1 : IntKind.i64.wrap (((pos l k : Nat) : Int) + 1) = ((pos l k : Nat) : Int) + 1 := IntWalk.i64_in _ (by omega)
  replace hn := Lib.hid hn
  clear hs H hx
  go_enter Tryz.func193, Tryz.ntmps193
  go_wp2_with fail
  refine hf.mono ?_
  rintro e w1 ⟨rfl, H1⟩
  obtain ⟨g, cap, rfl, H2⟩ := H1.b2.slc_at (by omega)
  have c0 := (H2.k s).ce o hC
  clear hf H1
  go_wp2_with fail
  refine (del_hold H2 hn.out hlt).mono ?_
  rintro e w2 ⟨v', rfl, H3⟩
  obtain ⟨l', hl'⟩ : ∃ l', l' = l.eraseIdx (pos l k) := ⟨_, rfl⟩
  rw [← hl'] at H3
  replace hl' := Lib.hid hl'
  obtain ⟨a', cap', rfl, -, -, -, -⟩ := H3.slc_form
  have c1 := (H3.k s).ce o hC
  have f1 := (H3.k s).fr o
  go_wp2_with fail
  go_ret
  refine ⟨rfl, .slice a' l'.length cap', ?_⟩
  rw [← hl'.out]
  exact (H3.k s).set o (.slice a' l'.length cap')
end
end Go.Proofs.YtogcikilphakmaaGreatDoor
