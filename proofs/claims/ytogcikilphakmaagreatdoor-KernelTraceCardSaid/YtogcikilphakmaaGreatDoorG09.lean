/-
  Merged texts of one proof: Del, Range, Facts, Tab_name.
-/
import Derived.LoopIn
import Derived.LoopNIn
import Derived.OwnWalkIn
import Derived.RangeFuncBound
import Derived.RangeFuncCalls
import Derived.RangeFuncLeaves
import Derived.RangeFuncRecord
import Derived.RangeFuncSeq
import Derived.Shelf.Abstract
import Derived.Shelf.RegionOpen
import Derived.TacticsInMore
import Derived.Test.YtogcikilphakmaaGreatDoorG06
import Derived.Test.YtogcikilphakmaaGreatDoorG07
import Derived.Test.YtogcikilphakmaaGreatDoorG08

/-
  slices.Delete of one row of Table[int, *units.holder] over the separation logic.
-/
namespace Go.Proofs.YtogcikilphakmaaGreatDoor
open Go.RowKit Spl

section
variable {w0 w : World} {R : List Pr} {v : Value} {l : List RowH}
set_option maxRecDepth 20000 in
set_option maxHeartbeats 3200000 in
/-- the last one of a full row -/
theorem delFull_hold {g n : Nat} {y : RowH} (hl : l.length = n) (H : Hd w0 (SlcC 267 2 g (n + 1) (n + 1) (flat (l ++ [y])) :: R) w) (hn : n ≤ 100000) : Calls Tryz.prog 201 #[.slice (some ⟨g, 0, none⟩) (n + 1) (n + 1), .int .i64 n, .int .i64 ((n : Int) + 1)] w fun e w' =>
    ∃ v', e = .returned v' ∧ Hd w0 (SlE 267 v' l :: R) w' := by
  obtain ⟨i0, hinf, hz0, hz1, hz2⟩ := info_parts infoR_hold
  obtain ⟨_, _, hcm, sp, hsp, H1⟩ := H.slcC
  have n1 : ((n : Int) == (n : Int) + 1) = false := by rw [beq_eq_false_iff_ne]; omega
  have n2 : (0 : Int) ≤ (n : Int) + 1 := by omega
  have n3 : (n : Int) ≤ (n : Int) + 1 := by omega
  have ht : (flat l).length = n * 2 := by rw [flat_len, hl]; rfl
  have hy2 : (flat [y]).length = 1 * 2 := by rw [flat_len]; rfl
  have H2 : Hd w0 (cel g 267 (flat l ++ (([] : List Value) ++ (flat [y] ++ sp))).toArray :: R) w := by
    rw [flat_append, List.append_assoc] at H1
    exact H1
  have hA := Lib.hid (And.intro hcm (And.intro hsp (And.intro ht (And.intro hy2 (And.intro hl hn)))))
  clear H H1 hcm hsp ht hy2 hn hl
  go_enter Tryz.func201, Tryz.ntmps201
  go_wp2_with fail
  refine wp_region_mix0 [(0, true), (1, true), (2, true), (3, true), (4, true), (5, true), (6, false), (7, true)] (fun w' => True) (by kernel_rfl) (by kernel_rfl) (trivial) (fun _ _ d _ _ h => by cases d <;> exact h) ?_
  iterate 6 (refine mix_head (o := _) (v := ?_) (by (simp only [List.getElem?_toArray, List.getElem?_cons_succ, List.getElem?_cons_zero]); rfl) (by rfl) (fun w' hS => ?_) ?_; rotate_left 1; (focus ((try dsimp only at hS); (try go_split_ands); go_simp; (try with_reducible rfl))); (try simp only [Act.put, List.setIfInBounds_toArray, List.set_cons_zero, List.set_cons_succ]))
  refine mix_mid (o := _) (by (simp only [List.getElem?_toArray, List.getElem?_cons_succ, List.getElem?_cons_zero]); rfl) ?_
  refine wpList_append_seg rfl _ _ 224 rfl 267 i0 2 Tryz.underlying224 hinf hz1 g n (n + 1) rfl ⟨g, 0, none⟩ 0 _ rfl (by omega) [] (Hd.fol H2) hA.out.2.2.1 rfl rfl (by simp) (by simp) ?_
  intro w2 H3
  refine mixQ_in trivial ?_
  iterate 1 (refine mix_head (o := _) (v := ?_) (by (simp only [List.getElem?_toArray, List.getElem?_cons_succ, List.getElem?_cons_zero]); rfl) (by rfl) (fun w' hS => ?_) ?_; rotate_left 1; (focus ((try dsimp only at hS); (try go_split_ands); go_simp; (try with_reducible rfl))); (try simp only [Act.put, List.setIfInBounds_toArray, List.set_cons_zero, List.set_cons_succ]))
  refine mix_end ?_
  (try dsimp only)
  rw [List.nil_append] at H3
  go_wp2_with (refine wpList_clear_seg rfl _ 224 rfl 267 i0 _ 2 Tryz.underlying224 hinf hz0 rfl (by simp [Value.cells, Value.oneCell']) g (n * 2) 1 _ rfl (by decide) H3 hA.out.2.2.1 hA.out.2.2.2.1 ?_; intro w3 H4)
  go_ret
  refine ⟨_, rfl, ?_⟩
  obtain ⟨a1, a2, a3, a4, a5, -⟩ := hA.out
  have hz : (Builtin.zeroCells (Value.agg #[Value.int IntKind.i64 0, Value.pointer none]).cells 1).toList.length = 2 := by rw [Array.length_toList, size_zeroCells]; rfl
  have H5 := (Hd.slcC_mk (n := n) (cap := n + 1) (size := 2) H4 a3 (by omega) a1 (by
    rw [List.length_append, flat_append, List.length_append, a3, a4] at a2
    rw [List.length_append, List.length_append, a3, hz]
    omega)).slc_mk
  unfold SlE
  rw [a5]
  exact H5
set_option maxRecDepth 20000 in
set_option maxHeartbeats 3200000 in
theorem del_hold {i g cap : Nat} (H : Hd w0 (SlcC 267 2 g l.length cap (flat l) :: R) w) (hn : l.length ≤ 100000) (hi : i < l.length) : Calls Tryz.prog 201 #[.slice (some ⟨g, 0, none⟩) l.length cap, .int .i64 i, .int .i64 ((i : Int) + 1)] w fun e w' =>
    ∃ v', e = .returned v' ∧ Hd w0 (SlE 267 v' (l.eraseIdx i) :: R) w' := by
  by_cases n8 : cap = i + 1
  · subst n8
    have hlen : l.length = i + 1 := by have := H.slcC.2.1; omega
    rcases nil_or_snoc l with rfl | ⟨init, y, rfl⟩
    · simp at hi
    · have hi2 : init.length = i := by rw [List.length_append] at hlen; exact Nat.succ.inj hlen
      have he : (init ++ [y]).eraseIdx i = init := by rw [List.eraseIdx_append_of_length_le (by omega), hi2, Nat.sub_self]; exact List.append_nil init
      rw [hlen] at H
      rw [hlen, he]
      exact delFull_hold hi2 H (by omega)
  obtain ⟨i0, hinf, hz0, hz1, hz2⟩ := info_parts infoR_hold
  obtain ⟨_, hnc, hcm, sp, hsp, H1⟩ := H.slcC
  have n1 : ((i : Int) == (i : Int) + 1) = false := by rw [beq_eq_false_iff_ne]; omega
  have n2 : (0 : Int) ≤ (i : Int) + 1 := by omega
  have n3 : (i : Int) ≤ (i : Int) + 1 := by omega
  have n4 : (i : Int) + 1 ≤ l.length := by omega
  have n5 : (i : Int) ≤ cap := by omega
  have n6 : ¬ cap = i := by omega
  have n7 : (l.length : Int) ≤ cap := by omega
  have ht : (flat (l.take i)).length = i * 2 := by rw [flat_len, List.length_take, Nat.min_eq_left (by omega)]; rfl
  have hd : (flat (l.drop i)).length = (l.length - i) * 2 := by rw [flat_len, List.length_drop]; rfl
  have hd1 : (flat (l.drop (i + 1))).length = (l.length - (i + 1)) * 2 := by rw [flat_len, List.length_drop]; rfl
  have ht1 : (flat (l.take (i + 1))).length = (i + 1) * 2 := by rw [flat_len, List.length_take, Nat.min_eq_left (by omega)]; rfl
  have e1 : flat l = flat (l.take i) ++ flat (l.drop i) := by rw [← flat_append, List.take_append_drop]
  have e2 : flat l = flat (l.take (i + 1)) ++ flat (l.drop (i + 1)) := by rw [← flat_append, List.take_append_drop]
  obtain ⟨o1, o2, ho, ho1, ho2⟩ : ∃ o1 o2 : List Value, flat (l.drop i) = o1 ++ o2 ∧ o1.length = (l.length - (i + 1)) * 2 ∧ o2.length = 2 :=
    ⟨(flat (l.drop i)).take ((l.length - (i + 1)) * 2), (flat (l.drop i)).drop ((l.length - (i + 1)) * 2), (List.take_append_drop _ _).symm, by rw [List.length_take, hd]; omega, by rw [List.length_drop, hd]; omega⟩
  have hsrc : ∀ (j : Nat) (u : Value), (flat (l.drop (i + 1)))[j]? = some u → w.cell? ((⟨g, (i + 1) * 2, none⟩ : Addr).add j) = some u := by
    intro j u hj
    have hadd : (⟨g, (i + 1) * 2, none⟩ : Addr).add j = ⟨g, (i + 1) * 2 + j, none⟩ := by unfold Addr.add; split <;> simp_all
    rw [hadd]
    exact H.slcC_rd (by rw [e2, List.getElem?_append_right (by omega), ht1, Nat.add_sub_cancel_left]; exact hj)
  have H2 : Hd w0 (cel g 267 (flat (l.take i) ++ (o1 ++ (o2 ++ sp))).toArray :: R) w := by
    have h := H1
    rw [e1, ho, List.append_assoc, List.append_assoc] at h
    exact h
  have hA := Lib.hid (And.intro hcm (And.intro hsp (And.intro hn (And.intro hi (And.intro hnc (And.intro ht (And.intro hd1 (And.intro ho1 (And.intro ho2 hsrc)))))))))
  have f1 : i + (l.length - (i + 1)) = l.length - 1 := by omega
  have f2 : ((l.length - 1 : Nat) : Int) ≤ l.length := by omega
  have f3 : ¬ cap = l.length - 1 := by omega
  have f4 : l.length - (l.length - 1) = 1 := by omega
  have f5 : ((l.length - 1 : Nat) : Int) ≤ cap := by omega
  clear H H1 hcm hsp hn ht hd hd1 ht1 e1 e2 ho ho1 ho2 hsrc
  · go_enter Tryz.func201, Tryz.ntmps201
    go_wp2_with fail
    refine wp_region_mix0 [(0, true), (1, true), (2, true), (3, true), (4, true), (5, true), (6, false), (7, true)] (fun w' => True) (by kernel_rfl) (by kernel_rfl) (trivial) (fun _ _ d _ _ h => by cases d <;> exact h) ?_
    iterate 6 (refine mix_head (o := _) (v := ?_) (by (simp only [List.getElem?_toArray, List.getElem?_cons_succ, List.getElem?_cons_zero]); rfl) (by rfl) (fun w' hS => ?_) ?_; rotate_left 1; (focus ((try dsimp only at hS); (try go_split_ands); go_simp; (try with_reducible rfl))); (try simp only [Act.put, List.setIfInBounds_toArray, List.set_cons_zero, List.set_cons_succ]))
    refine mix_mid (o := _) (by (simp only [List.getElem?_toArray, List.getElem?_cons_succ, List.getElem?_cons_zero]); rfl) ?_
    refine wpList_append_seg rfl _ _ 224 rfl 267 i0 2 Tryz.underlying224 hinf hz1 g i cap rfl ⟨g, (i + 1) * 2, none⟩ (l.length - (i + 1)) _ rfl (by have := hA.out.2.2.2.2.1; omega) (flat (l.drop (i + 1))) (Hd.fol H2) hA.out.2.2.2.2.2.1 (by rw [hA.out.2.2.2.2.2.2.2.1, hA.out.2.2.2.2.2.2.1]) hA.out.2.2.2.2.2.2.1 (by exact hA.out.2.2.2.2.2.2.2.2.2) (flat_oneCell _) ?_
    intro w2 H3
    rw [f1]
    refine mixQ_in trivial ?_
    iterate 1 (refine mix_head (o := _) (v := ?_) (by (simp only [List.getElem?_toArray, List.getElem?_cons_succ, List.getElem?_cons_zero]); rfl) (by rfl) (fun w' hS => ?_) ?_; rotate_left 1; (focus ((try dsimp only at hS); (try go_split_ands); go_simp; (try with_reducible rfl))); (try simp only [Act.put, List.setIfInBounds_toArray, List.set_cons_zero, List.set_cons_succ]))
    refine mix_end ?_
    (try dsimp only)
    rw [← List.append_assoc] at H3
    go_wp2_with (refine wpList_clear_seg rfl _ 224 rfl 267 i0 _ 2 Tryz.underlying224 hinf hz0 rfl (by simp [Value.cells, Value.oneCell']) g ((l.length - 1) * 2) 1 _ rfl (by decide) H3 (by have a1 := hA.out.2.2.2.2.2.1; have a2 := hA.out.2.2.2.2.2.2.1; rw [List.length_append, a1, a2]; omega) hA.out.2.2.2.2.2.2.2.2.1 ?_; intro w3 H4)
    go_ret
    refine ⟨_, rfl, ?_⟩
    obtain ⟨a1, a2, -, -, -, a3, a4, a5, a6, -⟩ := hA.out
    have hlen : (l.eraseIdx i).length = l.length - 1 := by rw [List.length_eraseIdx, if_pos hi]
    have e3 : flat (l.take i) ++ flat (l.drop (i + 1)) = flat (l.eraseIdx i) := by rw [← flat_append, List.eraseIdx_eq_take_drop_succ]
    rw [e3] at H4
    have H5 := (Hd.slcC_mk (n := l.length - 1) (cap := cap) (size := 2) H4 (by rw [flat_len, hlen]; rfl) (by omega) a1 (by
      rw [List.length_append, flat_len] at a2
      have hz : (Builtin.zeroCells (Value.agg #[Value.int IntKind.i64 0, Value.pointer none]).cells 1).toList.length = 2 := by rw [Array.length_toList, size_zeroCells]; rfl
      rw [List.length_append, List.length_append, flat_len, hlen, hz]
      simp only [Enc.size] at a2 ⊢
      omega)).slc_mk
    unfold SlE
    rw [hlen]
    exact H5

variable {s o T : Nat} {C : Array Value}
theorem delK_hold {x : RowH} {k : Int} (H : Hd w0 (cel s T C :: SlE 267 v l :: R) w) (hC : C[o]? = some v) (hs : Sorted l) (hn : l.length ≤ 100000) (hx : rowAt l k = some x) : Calls Tryz.prog 193 #[.pointer (some ⟨s, o, none⟩), .int .i64 k] w fun e w' =>
    e = .returned (.bool true) ∧ ∃ v', Hd w0 (cel s T (C.setIfInBounds o v') :: SlE 267 v' (l.eraseIdx (pos l k)) :: R) w' := by
  have hf := find_hold H hC hs hn k
  rw [hx] at hf
  have hlt := lt_of_get? (rowAt_some hs hx).1
  have n1 : IntKind.i64.wrap (((pos l k : Nat) : Int) + 1) = ((pos l k : Nat) : Int) + 1 := IntWalk.i64_in _ (by omega)
  replace hn := Lib.hid hn
  clear hs H hx
  go_enter Tryz.func193, Tryz.ntmps193
  go_wp2_with fail
  refine hf.mono ?_
  rintro e w1 ⟨rfl, H1⟩
  obtain ⟨g, cap, rfl, H2⟩ := H1.b2.slc_at (by omega)
  have c0 := (H2.k s).ce o hC
  clear hf H1
  go_wp2_with fail
  refine (del_hold H2 hn.out hlt).mono ?_
  rintro e w2 ⟨v', rfl, H3⟩
  obtain ⟨l', hl'⟩ : ∃ l', l' = l.eraseIdx (pos l k) := ⟨_, rfl⟩
  rw [← hl'] at H3
  replace hl' := Lib.hid hl'
  obtain ⟨a', cap', rfl, -, -, -, -⟩ := H3.slc_form
  have c1 := (H3.k s).ce o hC
  have f1 := (H3.k s).fr o
  go_wp2_with fail
  go_ret
  refine ⟨rfl, .slice a' l'.length cap', ?_⟩
  rw [← hl'.out]
  exact (H3.k s).set o (.slice a' l'.length cap')
end
end Go.Proofs.YtogcikilphakmaaGreatDoor

/-
  A range over a function in the small separation logic: the iterator's contract, the statement's law, the way out of a function that holds one. No program in sight.
-/
namespace Go.Proofs.YtogcikilphakmaaGreatDoor
open Go.RowKit Spl

section
variable {w0 w : World} {R L : List Pr} {P : Program} {n : Nat}
theorem Hd.putO {b : Nat} {o : Obj} (H : Hd w0 (pt b o :: R) w) (o' : Obj) : Hd w0 (pt b o' :: R) (w.putObj b o') :=
  H.upd (fun i => by
    have h := H.lt
    simp only [World.putObj]
    rw [Array.getElem?_setIfInBounds]
    by_cases hi : i = b
    · subst hi; simp [h]
    · simp [hi, Ne.symm hi]) ⟨rfl, rfl, rfl, by simp [World.putObj]⟩

theorem RoundIn.any {F : Fence} (hd : F.depth = none) {m m' : Nat} {P : Program} {l : Nat} {f : FuncId} {tmps : Array Value} {assign body : Code} {w : World} {R : Ending → World → Prop}
    (h : RoundIn F m P l f tmps assign body w R) : RoundIn F m' P l f tmps assign body w R := ⟨h.1, fun c cs _ => h.2 c cs (fun d hd2 => by rw [hd] at hd2; cases hd2)⟩

/-- What a call of yield does, whatever lies beside. -/
def Yld {α : Type} (P : Program) (l : Nat) (encs : α → Array Value) (w0 : World) (xs : List α) (Y : Nat → Pr) : Prop :=
  ∀ (i : Nat) (x : α) (X : List Pr) (W : World) (m : Nat), xs[i]? = some x → Hd w0 (Y i :: X) W → YieldAt Fence.wide m P l (encs x) W fun e W' => e = .returned (.bool true) ∧ Hd w0 (Y (i + 1) :: X) W'
/-- The iterator hands out xs, one by one, to a body that never leaves. -/
def SeqHd {α : Type} (P : Program) (gf : Nat) (lb : Array Value) (encs : α → Array Value) (w0 : World) (It : List Pr) (xs : List α) : Prop :=
  ∀ (l : Nat) (Y : Nat → Pr) (W : World) (n : Nat), Hd w0 (Y 0 :: It) W → Yld P l encs w0 xs Y →
    CallsIn Fence.wide n P gf (#[.func (.yield l) #[] #[]] ++ lb) W fun e W' => (∃ v, e = .returned v) ∧ Hd w0 (Y xs.length :: It) W'

theorem wpIn_rangeFunc_hd {α : Type} {g : Operand} {ps : Array Tmp} {assign body : Code} {Q : Exit → Act → World → Prop} {a : Act}
    {gf : Nat} {lb : Array Value} (hg : a.eval g = .func (.func gf) #[] lb) (eg : ∀ args w, (callFunc gf args).run P w = .ok (.enter gf args) w)
    {encs : α → Array Value} (hps : ∀ x, (encs x).size = ps.size) {It : List Pr} {xs : List α} (J : Nat → List Pr) (H : Hd w0 (all (J 0) :: It) w) (hseq : SeqHd P gf lb encs w0 It xs) (a₁ : α → Act)
    (hassign : ∀ (l : Nat) (x : α) (W : World) (K : Act → World → Prop), K (a₁ x) W →
      assign.wpIn (Fence.wide.inRound l) n P (Exit.then K (fun _ _ _ => False)) { tmps := (ps.zip (encs x)).foldl (fun t (p, v) => t.setIfInBounds p v) a.tmps, defers := [] } W)
    (hbody : ∀ (l i : Nat) (x : α) (X : List Pr) (W : World), xs[i]? = some x → Hd w0 (J i ++ X) W → body.wpIn (Fence.wide.inRound l) n P (Exit.then (fun _ W' => Hd w0 (J (i + 1) ++ X) W') (fun _ _ _ => False)) (a₁ x) W)
    (hdone : ∀ (D : Nat) (W : World), Hd w0 (J xs.length ++ pt D (.deferred (some [])) :: It) W → Q .normal { a with defers := { target := .collected D, args := #[] } :: a.defers } W) :
    (Code.rangeFunc g ps assign body).wpIn Fence.wide n P Q a w := by
  refine wpIn_rangeFunc ?_
  intro fn hfn
  show ∃ (l : Nat) (mark : List Deferred) (w₁ : World) (d : Deferred) (w₁' : World) (f : FuncId) (args : Array Value) (w₂ : World), (Instr.enterLoop fn a.tmps ps assign body none).run P w = _ ∧ _
  obtain ⟨rec, hrec⟩ : ∃ rec : LoopState → Option Code → Loop, rec = fun st pe => { state := st, pending := pe, fn, tmps := a.tmps, params := ps, assign, body, defers := w.heap.size } := ⟨_, rfl⟩
  obtain ⟨W1, hW1⟩ : ∃ W1, (w.alloc (.deferred (some []))).alloc (.loop (rec .ready none)) = W1 := ⟨_, rfl⟩
  have H1 : Hd w0 (pt (w.heap.size + 1) (.loop (rec .ready none)) :: pt w.heap.size (.deferred (some [])) :: all (J 0) :: It) W1 := by
    rw [← hW1]; exact H.fol
  let Y : Nat → Pr := fun i => all (pt (w.heap.size + 1) (.loop (rec .ready none)) :: pt w.heap.size (.deferred (some [])) :: J i)
  have HY : Hd w0 (Y 0 :: It) W1 := Hd.pack (L := _ :: _ :: J 0) (by
    have h3 := H1.b3.flat
    have h4 : Hd w0 (J 0 ++ (pt (w.heap.size + 1) (.loop (rec .ready none)) :: pt w.heap.size (.deferred (some [])) :: It)) W1 := h3
    exact h4.perm (by
      refine (List.perm_append_comm_assoc (J 0) [_, _] It))) 
  refine ⟨w.heap.size + 1, [{ target := .collected w.heap.size, args := #[] }], W1, { target := .fn (.func gf) lb, args := #[.func (.yield (w.heap.size + 1)) #[] #[]] }, W1, gf,
    #[.func (.yield (w.heap.size + 1)) #[] #[]] ++ lb, W1, ?_, ?_, ?_, ?_, (fun h => by cases h), ?_⟩
  · rw [← hW1, hrec]; exact run_enterLoop_outer _ _ _ _ _
  · simp only [resolve, hg]
    simp [go_sem]
  · intro f' hf'; trivial
  · simp [invoke, go_sem, eg]
  · refine (hseq (w.heap.size + 1) Y W1 (n - 1) HY ?_).mono ?_
    · intro i x X W m hx HW
      have HW2 : Hd w0 (pt (w.heap.size + 1) (.loop (rec .ready none)) :: pt w.heap.size (.deferred (some [])) :: (J i ++ X)) W := HW.flat
      have hl := HW2.heap
      have hy := run_yield (P := P) (args := encs x) hl (by rw [hrec]; exact hps x)
      rw [hrec] at hy
      refine ⟨fn, _, assign, body, hy, RoundIn.any rfl (roundIn_of_wpIn hfn (hassign _ x W _ ⟨_, run_beginRound hl (by rw [hrec]), ?_⟩))⟩
      have HW3 := HW2.putO (.loop { rec .ready none with state := .busy })
      refine wpIn_mono (hbody _ i x (pt (w.heap.size + 1) (.loop { rec .ready none with state := .busy }) :: pt w.heap.size (.deferred (some [])) :: X) _ hx (HW3.perm ?_)) ?_
      · exact (List.perm_append_comm_assoc (J i) [_, _] X).symm
      · rintro e a3 W3 hp
        cases e with
        | normal =>
          have HW4 : Hd w0 (J (i + 1) ++ (pt (w.heap.size + 1) (.loop { rec .ready none with state := .busy }) :: pt w.heap.size (.deferred (some [])) :: X)) W3 := hp
          have HW5 : Hd w0 (pt (w.heap.size + 1) (.loop { rec .ready none with state := .busy }) :: pt w.heap.size (.deferred (some [])) :: (J (i + 1) ++ X)) W3 := HW4.perm (List.perm_append_comm_assoc (J (i + 1)) [_, _] X)
          have hr := run_endRound (P := P) none HW5.heap
          refine ⟨_, _, hr, rfl, ?_⟩
          have HW6 := HW5.putO (.loop { rec .ready none with state := .ready, pending := none })
          refine Hd.pack (L := _ :: _ :: J (i + 1)) ?_
          rw [hrec] at HW6 ⊢
          exact HW6
        | _ => exact hp.elim
    · rintro e W2 ⟨⟨v, rfl⟩, HW⟩
      have HW2 : Hd w0 (pt (w.heap.size + 1) (.loop (rec .ready none)) :: pt w.heap.size (.deferred (some [])) :: (J xs.length ++ It)) W2 := HW.flat
      have hr := run_endLoop (P := P) HW2.heap (by rw [hrec]; simp)
      have HW3 := HW2.putO (.loop { rec .ready none with state := .exhausted })
      rw [hrec] at hr HW3
      refine ⟨none, _, hr, hdone _ _ ?_⟩
      refine HW3.tail.perm ?_
      exact (List.perm_append_comm_assoc (J xs.length) [_] It).symm

/-- The way out of a function that held one such loop. -/
theorem leaves_mark {fn : Func} {tmps : Array Value} {Q : Ending → World → Prop} {D : Nat} (H : Hd w0 (pt D (.deferred (some [])) :: L) w)
    (h : ∀ W, Hd w0 L W → ∃ v, (results fn tmps).run P W = .ok v W ∧ Q (.returned v) W) : LeavesInM Fence.wide n P fn tmps Q [{ target := .collected D, args := #[] }] .returning w :=
  ⟨by simp, .inl ⟨_, _, rfl, run_takeDeferred H.heap, h _ (H.putO _).tail⟩⟩
end
end Go.Proofs.YtogcikilphakmaaGreatDoor

/-
  The facts of all cells of literal rows among the assertions, laid at once. No program in sight.
-/
namespace Go.Proofs.YtogcikilphakmaaGreatDoor
open Go.RowKit Spl

class RowF (w : World) (b : Nat) (i : Nat) (l : List Value) (F : outParam Prop) : Prop where
  imp : (∀ j u, l[j]? = some u → w.cell? ⟨b, i + j, none⟩ = some u) → (∀ j, w.frozen? ⟨b, j, none⟩ = false) → F
instance (priority := low) RowF.any {w : World} {b i : Nat} {l : List Value} : RowF w b i l True := ⟨fun _ _ => trivial⟩
instance RowF.cons {w : World} {b i : Nat} {v : Value} {l : List Value} {F : Prop} [h : RowF w b (i + 1) l F] : RowF w b i (v :: l) ((w.cell? ⟨b, i, none⟩ = some v ∧ w.frozen? ⟨b, i, none⟩ = false) ∧ F) :=
  ⟨fun hc hf => ⟨⟨hc 0 v rfl, hf i⟩, h.imp (fun j u hj => (by have := hc (j + 1) u (by simpa using hj); rwa [show i + (j + 1) = i + 1 + j by omega] at this)) hf⟩⟩
class FactsL (w : World) (L : List Pr) (F : outParam Prop) : Prop where
  imp : ∀ {w0 : World}, Hd w0 L w → F
instance (priority := low) FactsL.any {w : World} {L : List Pr} : FactsL w L True := ⟨fun _ => trivial⟩
instance (priority := mid) FactsL.skip {w : World} {P : Pr} {L : List Pr} {F : Prop} [h : FactsL w L F] : FactsL w (P :: L) F := ⟨fun H => h.imp H.tail⟩
instance FactsL.row {w : World} {b T : Nat} {l : List Value} {L : List Pr} {F G : Prop} [g : RowF w b 0 l G] [h : FactsL w L F] : FactsL w (pt b (.cells l.toArray T (0, 0)) :: L) (G ∧ F) :=
  ⟨fun H => ⟨g.imp (fun j u hj => by rw [Nat.zero_add]; exact (H.rd j).trans (by simpa using hj)) H.fr, h.imp H.tail⟩⟩
theorem Hd.facts {w0 w : World} {L : List Pr} {F : Prop} [h : FactsL w L F] (H : Hd w0 L w) : F := h.imp H
/-- .. of the first ones alone. -/
theorem Hd.fact1 {w0 w : World} {P : Pr} {L : List Pr} {F : Prop} [h : FactsL w [P] F] (H : Hd w0 (P :: L) w) : F := h.imp (⟨H.1, by
  obtain ⟨a, b, d, e, ha, _⟩ := H.2
  exact ⟨a, b, d, e, ha, trivial⟩⟩ : Hd w0 [P] w)

example {w0 w : World} {b c : Nat} {v u : Value} {R : List Pr} {P : Pr} (H : Hd w0 (cel b 7 #[v, u] :: P :: cel c 8 #[v] :: R) w) : w.cell? ⟨b, 1, none⟩ = some u ∧ w.cell? ⟨c, 0, none⟩ = some v := by
  have hf := H.facts
  simp only [Nat.reduceAdd] at hf
  go_split_ands
  exact ⟨by assumption, by assumption⟩

/-- A slice of encoded things, one of them read. -/
theorem Hd.slE_at {w0 w : World} {R : List Pr} {α : Type} [Enc α] {e : TypeId} {v : Value} {l : List α} {k : Nat} {x : α} (H : Hd w0 (SlE e v l :: R) w) (hk : l[k]? = some x) :
    ∃ g cap, v = .slice (some ⟨g, 0, none⟩) l.length cap ∧ k < l.length ∧ l.length ≤ cap ∧ Hd w0 (SlEC e g cap l :: R) w ∧ ∀ j u, (Enc.cells x)[j]? = some u → w.cell? ⟨g, k * Enc.size α + j, none⟩ = some u := by
  have hlt := lt_of_get? hk
  obtain ⟨g, cap, rfl, H2⟩ := H.slc_at (by omega)
  exact ⟨g, cap, rfl, hlt, H2.slcC.2.1, H2, fun j u hj => H2.slcC_rd (flat_at hk hj)⟩
theorem ret_int {a b : Int} (h : b = a) : Ending.returned (.int .i64 a) = Ending.returned (.int .i64 b) := by rw [h]
theorem ret_bool {a b : Bool} (h : b = a) : Ending.returned (.bool a) = Ending.returned (.bool b) := by rw [h]
theorem ret_str {a b : ByteArray} (h : b = a) : Ending.returned (.string a) = Ending.returned (.string b) := by rw [h]
theorem ret_ib {a b : Int} {c d : Bool} (h : b = a) (h2 : d = c) : Ending.returned (.tuple #[.int .i64 a, .bool c]) = Ending.returned (.tuple #[.int .i64 b, .bool d]) := by rw [h, h2]
theorem ret_ii {a b c d : Int} (h : b = a) (h2 : d = c) : Ending.returned (.tuple #[.int .i64 a, .int .i64 c]) = Ending.returned (.tuple #[.int .i64 b, .int .i64 d]) := by rw [h, h2]
end Go.Proofs.YtogcikilphakmaaGreatDoor

/-
  shelf.Table[string, keel/tasks.id] over the separation logic: where a key is or would be. Every table, every key.
-/
namespace Go.Proofs.YtogcikilphakmaaGreatDoor
open Go.RowKit Spl

section
variable {w0 w : World} {R : List Pr} {v : Value} {l : List RowN}
/-- how two keys compare -/
def cmp_name (x : RowN) (k : ByteArray) : Int := if KLt.lt x.k k then -1 else if KLt.lt k x.k then 1 else 0
theorem cmpf_name (H : Hd w0 R w) (x : RowN) (k : ByteArray) : Calls Tryz.prog 121 #[.agg #[.string x.k, .int .i64 x.i], .string k] w fun e w' => e = .returned (.int .i64 (cmp_name x k)) ∧ Hd w0 R w' := by
  have HA : Hd w0 _ (w.alloc (.cells #[.string x.k, .int .i64 x.i] 196)) := H.fol
  unfold cmp_name
  cases h1 : KLt.lt x.k k with
  | true =>
    have g1 : Op.bytesLess x.k.toList k.toList = true := by simpa [KLt.lt] using h1
    rw [if_pos rfl]
    clear h1
    go_enter Tryz.func121, Tryz.ntmps121
    go_wp2
    go_ret
    exact ⟨rfl, HA.re⟩
  | false =>
    have g1 : Op.bytesLess x.k.toList k.toList = false := by simpa [KLt.lt] using h1
    rw [if_neg (by simp)]
    cases h2 : KLt.lt k x.k with
    | true =>
      have g2 : (!x.k.toList == k.toList) = true := by simp only [Bool.not_eq_true', beq_eq_false_iff_ne]; intro hc; rw [bytes_ext hc, KLt.irr] at h2; exact absurd h2 (by simp)
      rw [if_pos rfl]
      clear h1 h2
      go_enter Tryz.func121, Tryz.ntmps121
      go_wp2
      go_ret
      exact ⟨rfl, HA.re⟩
    | false =>
      have g2 : (!x.k.toList == k.toList) = false := by have := KLt.tot h1 h2; subst this; simp
      rw [if_neg (by simp)]
      clear h1 h2
      go_enter Tryz.func121, Tryz.ntmps121
      go_wp2
      go_ret
      exact ⟨rfl, HA.re⟩

set_option maxRecDepth 20000 in
set_option maxHeartbeats 1600000 in
theorem bs_name (H : Hd w0 (SlE 196 v l :: R) w) (hs : Sorted l) (hn : l.length ≤ 100000) (k : ByteArray) : Calls Tryz.prog 120 #[v, .string k, .func (.func 121) #[] #[]] w fun e w' =>
    e = .returned (.tuple #[.int .i64 (pos l k), .bool (rowAt l k).isSome]) ∧ Hd w0 (SlE 196 v l :: R) w' := by
  obtain ⟨a, cap, rfl, -, -, -, -⟩ := H.slc_form
  have hO := Lib.hid (And.intro H (And.intro hs hn))
  clear H hs hn
  go_enter Tryz.func120, Tryz.ntmps120
  go_wp2
  go_loopw [9, 10] (fun vi vj wr => ∃ i j : Nat, vi = .int .i64 i ∧ vj = .int .i64 j ∧ i ≤ pos l k ∧ pos l k ≤ j ∧ j ≤ l.length ∧ Hd w0 (SlE 196 (.slice a l.length cap) l :: R) wr) (fun vi vj _ => (intOf vj).toNat - (intOf vi).toNat)
  case atStart => exact ⟨0, l.length, rfl, rfl, Nat.zero_le _, pos_le l k, Nat.le_refl _, hO.out.1⟩
  case round =>
    obtain ⟨i, j, rfl, rfl, hi, hj, hjn, H⟩ := hrel
    by_cases hij : i < j
    · obtain ⟨h, hh⟩ : ∃ h : Nat, h = (i + j) / 2 := ⟨_, rfl⟩
      have hlo : i ≤ h := by omega
      have hhi : h < j := by omega
      have n1 : (i : Int) < j := by omega
      have f1 : wrap64 ((i : Int) + j) = (i : Int) + j := IntWalk.wrap64_in _ (by have := hO.out.2.2; omega)
      have f1' : IntKind.i64.wrap ((i : Int) + j) = (i : Int) + j := IntWalk.i64_in _ (by have := hO.out.2.2; omega)
      have f2 : IntKind.u64.wrap ((i : Int) + j) = (i : Int) + j := IntWalk.u64_in _ (by have := hO.out.2.2; omega)
      have f3 : wrap64 (((i : Int) + j) / 2) = h := by rw [IntWalk.wrap64_in _ (by have := hO.out.2.2; omega)]; omega
      have f3' : IntKind.i64.wrap (((i : Int) + j) / 2) = h := by rw [IntWalk.i64_in _ (by have := hO.out.2.2; omega)]; omega
      have f4 : IntKind.i64.wrap ((h : Int) + 1) = (h : Int) + 1 := IntWalk.i64_in _ (by have := hO.out.2.2; omega)
      have n2 : ¬ ((h : Int) < 0) := by omega
      have n3 : (h : Int) < l.length := by omega
      have n4 : ¬ l.length ≤ h := by omega
      obtain ⟨x, hx⟩ : ∃ x, l[h]? = some x := ⟨l[h]'(by omega), List.getElem?_eq_getElem _⟩
      obtain ⟨g, cap2, hv, H2⟩ := H.slc_at (by omega)
      injection hv with hv _ hv2
      subst hv hv2
      have c0 := H2.slcC_rd (flat_at hx (j := 0) rfl)
      have c1 := H2.slcC_rd (flat_at hx (j := 1) rfl)
      simp only [Enc.size, Nat.add_zero] at c0 c1
      have hcmp := cmpf_name H x k
      have hX := Lib.hid (And.intro hx (And.intro hh (And.intro hi (And.intro hj (And.intro hjn (And.intro hlo hhi))))))
      clear H2 H hx hh hi hj hjn hlo hhi
      cases hlt : KLt.lt x.k k with
      | true =>
        have hn : cmp_name x k < 0 := by simp [cmp_name, hlt]
        have hp : h + 1 ≤ pos l k := by
          rcases Nat.lt_or_ge h (pos l k) with h1 | h1
          · omega
          · have := pos_ge hO.out.2.1 hX.out.1 h1
            exact absurd hlt (by rw [show KLt.lt x.k k = false from this]; simp)
        clear hlt
        go_wp2_with fail
        refine hcmp.mono ?_
        rintro e w2 ⟨rfl, H3⟩
        clear hcmp
        go_wp2_with fail
        go_roundw
        case rel => exact ⟨h + 1, j, rfl, rfl, hp, hX.out.2.2.2.1, hX.out.2.2.2.2.1, H3⟩
        case measure => have := hX.out; simp [intOf]; omega
      | false =>
        have hn : ¬ (cmp_name x k < 0) := by
          unfold cmp_name
          rw [hlt, if_neg (by simp)]
          split <;> omega
        have hp : pos l k ≤ h := by
          rcases Nat.lt_or_ge h (pos l k) with h1 | h1
          · have := pos_lt hX.out.1 h1
            exact absurd hlt (by rw [show KLt.lt x.k k = true from this]; simp)
          · exact h1
        clear hlt
        go_wp2_with fail
        refine hcmp.mono ?_
        rintro e w2 ⟨rfl, H3⟩
        clear hcmp
        go_wp2_with fail
        go_roundw
        case rel => exact ⟨i, h, rfl, rfl, hX.out.2.2.1, hp, by have := hX.out; omega, H3⟩
        case measure => have := hX.out; simp [intOf]; omega
    · have n1 : ¬ ((i : Int) < j) := by omega
      obtain rfl : i = pos l k := by omega
      by_cases hin : pos l k < l.length
      · have n2 : ¬ (((pos l k : Nat) : Int) < 0) := by omega
        have n3 : ((pos l k : Nat) : Int) < l.length := by omega
        have n4 : ¬ l.length ≤ pos l k := by omega
        obtain ⟨x, hx⟩ : ∃ x, l[pos l k]? = some x := ⟨l[pos l k]'(by omega), List.getElem?_eq_getElem _⟩
        obtain ⟨g, cap2, hv, H2⟩ := H.slc_at (by omega)
        injection hv with hv _ hv2
        subst hv hv2
        have c0 := H2.slcC_rd (flat_at hx (j := 0) rfl)
        have c1 := H2.slcC_rd (flat_at hx (j := 1) rfl)
        simp only [Enc.size, Nat.add_zero] at c0 c1
        have hcmp := cmpf_name H x k
        have hf : KLt.lt x.k k = false := pos_ge hO.out.2.1 hx (Nat.le_refl _)
        have he : (rowAt l k).isSome = (cmp_name x k == 0) := by
          unfold rowAt cmp_name
          rw [hx, hf, if_neg (by simp)]
          show (if KLt.lt k x.k = true then none else some x).isSome = _
          cases KLt.lt k x.k <;> rfl
        replace he := Lib.hid he
        clear H2 H hx hf hi hj hjn hij hin
        go_wp2_with fail
        refine hcmp.mono ?_
        rintro e w2 ⟨rfl, H3⟩
        clear hcmp
        go_wp2_with fail
        go_ret2
        exact ⟨by rw [he.out]; rfl, H3⟩
      · have n3 : ¬ (((pos l k : Nat) : Int) < l.length) := by omega
        have he : (rowAt l k).isSome = false := by
          unfold rowAt
          rw [List.getElem?_eq_none (by omega)]
          rfl
        replace he := Lib.hid he
        clear hi hj hjn hij hin
        go_wp2_with fail
        go_ret2
        exact ⟨by rw [he.out]; rfl, H⟩
end
end Go.Proofs.YtogcikilphakmaaGreatDoor
