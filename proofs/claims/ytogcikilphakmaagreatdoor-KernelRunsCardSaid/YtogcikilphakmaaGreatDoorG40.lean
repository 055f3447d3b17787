/-
  Merged texts of one proof: Co4, InvB.
-/
import Derived.Test.YtogcikilphakmaaGreatDoorG08
import Derived.Test.YtogcikilphakmaaGreatDoorG38

/-
  Package core: finish. Every core with a started job.
-/
namespace Go.Proofs.YtogcikilphakmaaGreatDoor
open Go.RowKit Spl

section
variable {w0 w : World} {R : List Pr} {c : Nat} {x : CoV} {vj : Value} {tk : TkM} {S : Hp} {m : CoM}
set_option maxRecDepth 20000 in
set_option maxHeartbeats 4000000 in
theorem coFinish {bs : List Nat} {b : Nat} (H : Hd w0 (CoL c x vj tk S m (SlE 158 vj (bs.map Ptr.mk ++ [⟨b⟩]) :: R)) w) (hm : m.ar.Ok) (hf : m.ar.fr ≠ []) (hu : m.un.Inv) (hl : m.ce.length ≤ 10000) (hbs : bs.length ≤ 1000) (j : ActM) (o : OpM) (hd : m.un.locksN j.job ≤ m.ce.length) :
    Calls Tryz.prog 141 #[.pointer (some ⟨c, 0, none⟩), actV j, opV o] w fun e w' => e = .returned (.int .i64 0) ∧
      ∃ vj', Hd w0 (CoL c x vj' tk S { m with ar := m.ar.close, un := m.un.popN j.job (m.un.locksN j.job), ce := m.ce.take (m.ce.length - m.un.locksN j.job) } (SlE 158 vj' (bs.map Ptr.mk) :: R)) w' := by
  obtain ⟨l, t, a, u, ce⟩ := x
  have H2 : Hd w0 _ ((w.alloc (.cells #[.int .i64 j.job, .int .i64 j.task, .int .i64 j.level, .int .i64 j.at_] 160)).alloc (.cells #[.int .i64 o.kind, .int .i64 o.res, .int .i64 o.n, .int .i64 o.v] 39)) := H.fol
  have HA := H2.drew
  have hdr := unDrop (HA.k u) hu.ok hu.ok2 hu.ok3 (job := j.job)
  obtain ⟨n, hn⟩ : ∃ n, m.un.locksN j.job = n := ⟨_, rfl⟩
  rw [hn] at hdr hd ⊢
  obtain ⟨UL, hUL⟩ : ∃ UL, m.un.popN j.job n = UL := ⟨_, rfl⟩
  rw [hUL] at hdr
  rw [hUL]
  obtain ⟨L, hL⟩ : ∃ L, m.ce.length = L := ⟨_, rfl⟩
  rw [hL] at hl hd
  rw [hL]
  have hcl : m.ar.closeE = 0 := by unfold ArM.closeE; rw [if_neg hf]
  have hf2 := H2.facts
  simp only [Nat.reduceAdd] at hf2
  go_split_ands
  replace hn := Lib.hid hn
  replace hUL := Lib.hid hUL
  replace hL := Lib.hid hL
  replace hcl := Lib.hid hcl
  clear H hu
  go_enter Tryz.func141, Tryz.ntmps141
  go_wp2_with fail
  refine wp_region_mix0 [(0, true), (1, true), (2, true), (3, true), (4, true), (5, true), (6, true), (7, true), (8, true), (10, true), (9, false)] (fun w' => w'.cell? ⟨c, 0, none⟩ = some (.pointer (some ⟨l, 0, none⟩)) ∧ w'.cell? ⟨l, 2, none⟩ = some (.pointer (some ⟨u, 0, none⟩)) ∧ w'.cell? ⟨w.heap.size, 0, none⟩ = some (.int .i64 j.job)) (by kernel_rfl) (by kernel_rfl) (⟨(show _ = some _ from (HA.k c).ce 0 rfl), (show _ = some _ from (HA.k l).ce 2 rfl), (show _ = some _ from (HA.k w.heap.size).ce 0 rfl)⟩) (fun _ _ d _ _ h => by cases d <;> exact h) ?_
  iterate 10 (refine mix_head (o := _) (v := ?_) (by (simp only [List.getElem?_toArray, List.getElem?_cons_succ, List.getElem?_cons_zero]); rfl) (by rfl) (fun w' hS => ?_) ?_; rotate_left 1; (focus ((try dsimp only at hS); (try go_split_ands); go_simp; (try with_reducible rfl))); (try simp only [Act.put, List.setIfInBounds_toArray, List.set_cons_zero, List.set_cons_succ]))
  refine mix_mid (o := _) (by (simp only [List.getElem?_toArray, List.getElem?_cons_succ, List.getElem?_cons_zero]); rfl) ?_
  go_wp2_with fail
  refine hdr.mono ?_
  rintro e w1 ⟨rfl, H3⟩
  clear hdr
  go_wp2_with fail
  refine mixQ_in ⟨(show _ = some _ from (H3.k c).ce 0 rfl), (show _ = some _ from (H3.k l).ce 2 rfl), (show _ = some _ from (H3.k w.heap.size).ce 0 rfl)⟩ ?_
  refine mix_end ?_
  (try dsimp only)
  go_wp2_with fail
  go_loopw [17] (fun y wv => ∃ k : Nat, k ≤ n ∧ y = .int .i64 k ∧ Hd w0 (CeP ce (m.ce.take (L - k)) :: cel c 112 (coreRow c l) :: cel l 94 (lookRow ⟨l, t, a, u, ce⟩ vj) :: TkP t tk S :: ro S :: ArP a m.ar :: UnP u UL :: SlE 158 vj (bs.map Ptr.mk ++ [⟨b⟩]) :: R) wv) (fun y _ => n - (intOf y).toNat)
  case atStart => exact ⟨0, Nat.zero_le _, rfl, by rw [Nat.sub_zero, ← hL.out, List.take_length]; exact H3.re⟩
  case round =>
    clear H2 HA H3
    obtain ⟨k, hk, rfl, H4⟩ := hrel
    have hg := H4.facts
    simp only [Nat.reduceAdd] at hg
    go_split_ands
    by_cases hlt : k < n
    · have n1 : (k : Int) < n := by omega
      have g6 : IntKind.i64.wrap ((k : Int) + 1) = (k : Int) + 1 := IntWalk.i64_in _ (by omega)
      have hlo := ceLower H4 (by rw [List.length_take]; omega) (by intro h; have := congrArg List.length h; simp [hL.out] at this; omega)
      have hdl := Lib.hid (show (m.ce.take (L - k)).dropLast = m.ce.take (L - (k + 1)) by
        rw [List.dropLast_eq_take, List.take_take, List.length_take, hL.out]
        congr 1
        omega)
      rw [hdl.out] at hlo
      go_wp2_with fail
      refine hlo.mono ?_
      rintro e w2 ⟨rfl, H5⟩
      clear hlo
      go_wp2_with fail
      go_roundw
      case rel => exact ⟨k + 1, by omega, by simp, H5.re⟩
      case measure => simp [intOf]; omega
    · obtain rfl : k = n := by omega
      have hpop := stkPop_started (o := 4) ((H4.v vj).k l) rfl (by rw [List.length_map]; omega)
      go_wp2_with fail
      refine hpop.mono ?_
      rintro e w2 ⟨rfl, vj', H5⟩
      clear hpop
      have H6 : Hd w0 (cel l 94 (lookRow ⟨l, t, a, u, ce⟩ vj') :: SlE 158 vj' (bs.map Ptr.mk) :: CeP ce (m.ce.take (L - k)) :: cel c 112 (coreRow c l) :: TkP t tk S :: ro S :: ArP a m.ar :: UnP u UL :: R) w2 := H5
      have hg2 := H6.facts
      simp only [Nat.reduceAdd] at hg2
      go_split_ands
      have hclo := arClose (H6.k a) hm
      rw [hcl.out] at hclo
      go_wp2_with fail
      refine hclo.mono ?_
      rintro e w3 ⟨rfl, H7⟩
      clear hclo
      go_wp2_with fail
      go_ret
      exact ⟨rfl, vj', H7.re⟩
end
end Go.Proofs.YtogcikilphakmaaGreatDoor

/-
  The bound of the frames' words: rising levels never take more. No program in sight.
-/
namespace Go.Proofs.YtogcikilphakmaaGreatDoor
open Go.RowKit Spl

theorem largest_snoc (rs : List RowM) (r : RowM) (lv : Int) : largestM (rs ++ [r]) lv = if r.t.lv = lv then max (largestM rs lv) r.t.fr else largestM rs lv := by simp [largestM, List.foldl_append]
theorem bound_snoc (rs : List RowM) (r : RowM) (h : 0 ≤ r.t.lv) : ∀ k : Nat, boundTo (rs ++ [r]) k = boundTo rs k + if r.t.lv < k then max 0 (r.t.fr - largestM rs r.t.lv) else 0
  | 0 => by
    rw [if_neg (by omega)]
    simp [boundTo]
  | k + 1 => by
    rw [boundTo_succ, boundTo_succ, bound_snoc rs r h k, largest_snoc]
    by_cases h1 : r.t.lv < k
    · rw [if_pos h1, if_neg (show ¬ r.t.lv = k by omega), if_pos (show r.t.lv < ((k + 1 : Nat) : Int) by omega)]; omega
    · rw [if_neg h1]
      by_cases h2 : r.t.lv = k
      · rw [if_pos h2, if_pos (show r.t.lv < ((k + 1 : Nat) : Int) by omega), h2]; omega
      · rw [if_neg h2, if_neg (show ¬ r.t.lv < ((k + 1 : Nat) : Int) by omega)]; omega
theorem bound_with {rs : List RowM} {r : RowM} (h : (1 ≤ r.t.lv ∧ r.t.lv ≤ 32) ∧ 0 ≤ r.t.fr ∧ r.t.fr ≤ 4096) : boundM (rs ++ [r]) = withM rs r.t.lv r.t.fr := by
  unfold boundM withM
  rw [if_pos h, bound_snoc rs r (by omega), if_pos (by omega)]
  rfl
theorem largest_nonneg {rs : List RowM} (hf : ∀ r ∈ rs, 0 ≤ r.t.fr ∧ r.t.fr ≤ 4096) (lv : Int) : 0 ≤ largestM rs lv := by
  have := largest_le hf (lv := lv) rs.length (Nat.le_refl _)
  rw [List.take_length] at this
  exact this.1
theorem largest_mono (rs : List RowM) (lv : Int) : ∀ n : Int, n ≤ rs.foldl (fun n r => if r.t.lv = lv then max n r.t.fr else n) n := by
  induction rs with
  | nil => intro n; exact Int.le_refl _
  | cons r rs ih =>
    intro n
    rw [List.foldl_cons]
    have := ih (if r.t.lv = lv then max n r.t.fr else n)
    split at this <;> split <;> first | omega | contradiction
theorem fr_le_largest {rs : List RowM} {r : RowM} (h : r ∈ rs) : r.t.fr ≤ largestM rs r.t.lv := by
  unfold largestM
  generalize (0 : Int) = n
  induction rs generalizing n with
  | nil => cases h
  | cons x rs ih =>
    rw [List.foldl_cons]
    rcases List.mem_cons.1 h with rfl | h
    · rw [if_pos rfl]
      have := largest_mono rs r.t.lv (max n r.t.fr)
      omega
    · exact ih h _
theorem boundTo_mono {rs : List RowM} (hf : ∀ r ∈ rs, 0 ≤ r.t.fr ∧ r.t.fr ≤ 4096) {a : Nat} : ∀ {b : Nat}, a ≤ b → boundTo rs a ≤ boundTo rs b
  | 0, h => by
    have : a = 0 := by omega
    subst this; exact Int.le_refl _
  | b + 1, h => by
    by_cases h1 : a = b + 1
    · subst h1; exact Int.le_refl _
    · have := boundTo_mono hf (a := a) (b := b) (by omega)
      have := largest_nonneg hf (b : Int)
      rw [boundTo_succ]
      omega
/-- The words of jobs whose levels rise. -/
theorem frames_bound {rs : List RowM} (hf : ∀ r ∈ rs, 0 ≤ r.t.fr ∧ r.t.fr ≤ 4096) {f : StM → Int} : ∀ {l : List StM} {a k : Nat} (_ : l.Pairwise fun x y => x.level < y.level) (_ : ∀ j ∈ l, (a : Int) ≤ j.level ∧ j.level < k ∧ f j ≤ largestM rs j.level) (_ : a ≤ k), (l.map f).sum + boundTo rs a ≤ boundTo rs k
  | [], a, k, _, _, hk => by simpa using boundTo_mono hf hk
  | j :: l, a, k, hp, h, hk => by
    have h2 := List.pairwise_cons.1 hp
    obtain ⟨h3, h4, h5⟩ := h j (by simp)
    obtain ⟨n, hn⟩ : ∃ n : Nat, j.level = n := ⟨j.level.toNat, by omega⟩
    have h6 := frames_bound hf (f := f) (l := l) (a := n + 1) (k := k) h2.2 (fun x hx => by
      have := h2.1 x hx
      have := h x (by simp [hx])
      exact ⟨by push_cast; omega, this.2⟩) (by omega)
    have h7 := boundTo_mono hf (a := a) (b := n) (by omega)
    rw [boundTo_succ, ← hn] at h6
    rw [List.map_cons, List.sum_cons]
    omega
theorem rising_len : ∀ {l : List StM} {a k : Nat} (_ : l.Pairwise fun x y => x.level < y.level) (_ : ∀ j ∈ l, (a : Int) ≤ j.level ∧ j.level < k) (_ : a ≤ k), l.length + a ≤ k
  | [], a, k, _, _, hk => by simpa using hk
  | j :: l, a, k, hp, h, hk => by
    have h2 := List.pairwise_cons.1 hp
    obtain ⟨h3, h4⟩ := h j (by simp)
    obtain ⟨n, hn⟩ : ∃ n : Nat, j.level = n := ⟨j.level.toNat, by omega⟩
    have h6 := rising_len (l := l) (a := n + 1) (k := k) h2.2 (fun x hx => by
      have := h2.1 x hx
      have := h x (by simp [hx])
      exact ⟨by push_cast; omega, this.2⟩) (by omega)
    rw [List.length_cons]
    omega
end Go.Proofs.YtogcikilphakmaaGreatDoor
