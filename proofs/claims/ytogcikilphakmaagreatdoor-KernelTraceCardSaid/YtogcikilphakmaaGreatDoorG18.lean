/-
  Merged texts of one proof: Tab_name, Range2.
-/
import Derived.Test.YtogcikilphakmaaGreatDoorG09
import Derived.Test.YtogcikilphakmaaGreatDoorG11

/-
  shelf.Table[string, keel/tasks.id] over the separation logic: where a key is or would be. Every table, every key.
-/
namespace Go.Proofs.YtogcikilphakmaaGreatDoor
open Go.RowKit Spl

section
variable {w0 w : World} {R : List Pr} {v : Value} {l : List RowN}
/-- how two keys compare -/
def cmp_name (x : RowN) (k : ByteArray) : Int := if KLt.lt x.k k then -1 else if KLt.lt k x.k then 1 else 0
theorem cmpf_name (H : Hd w0 R w) (x : RowN) (k : ByteArray) : Calls Tryz.prog 121 #[.agg #[.string x.k, .int .i64 x.i], .string k] w fun e w' => e = .returned (.int .i64 (cmp_name x k)) ∧ Hd w0 R w' := by
  have HA : Hd w0 _ (w.alloc (.cells #[.string x.k, .int .i64 x.i] 196)) := H.fol
  unfold cmp_name
  cases h1 : KLt.lt x.k k with
  | true =>
    have g1 : Op.bytesLess x.k.toList k.toList = true := by simpa [KLt.lt] using h1
    rw [if_pos rfl]
    clear h1
    go_enter Tryz.func121, Tryz.ntmps121
    go_wp2
    go_ret
    exact ⟨rfl, HA.re⟩
  | false =>
    have g1 : Op.bytesLess x.k.toList k.toList = false := by simpa [KLt.lt] using h1
    rw [if_neg (by simp)]
    cases h2 : KLt.lt k x.k with
    | true =>
      have g2 : (!x.k.toList == k.toList) = true := by simp only [Bool.not_eq_true', beq_eq_false_iff_ne]; intro hc; rw [bytes_ext hc, KLt.irr] at h2; exact absurd h2 (by simp)
      rw [if_pos rfl]
      clear h1 h2
      go_enter Tryz.func121, Tryz.ntmps121
      go_wp2
      go_ret
      exact ⟨rfl, HA.re⟩
    | false =>
      have g2 : (!x.k.toList == k.toList) = false := by have := KLt.tot h1 h2; subst this; simp
      rw [if_neg (by simp)]
      clear h1 h2
      go_enter Tryz.func121, Tryz.ntmps121
      go_wp2
      go_ret
      exact ⟨rfl, HA.re⟩

set_option maxRecDepth 20000 in
set_option maxHeartbeats 1600000 in
theorem bs_name (H : Hd w0 (SlE 196 v l :: R) w) (hs : Sorted l) (hn : l.length ≤ 100000) (k : ByteArray) : Calls Tryz.prog 120 #[v, .string k, .func (.func 121) #[] #[]] w fun e w' =>
    e = .returned (.tuple #[.int .i64 (pos l k), .bool (rowAt l k).isSome]) ∧ Hd w0 (SlE 196 v l :: R) w' := by
  obtain ⟨a, cap, rfl, -, -, -, -⟩ := H.slc_form
  have hO := Lib.hid (And.intro H (And.intro hs hn))
  clear H hs hn
  go_enter Tryz.func120, Tryz.ntmps120
  go_wp2
  go_loopw [9, 10] (fun vi vj wr => ∃ i j : Nat, vi = .int .i64 i ∧ vj = .int .i64 j ∧ i ≤ pos l k ∧ pos l k ≤ j ∧ j ≤ l.length ∧ Hd w0 (SlE 196 (.slice a l.length cap) l :: R) wr) (fun vi vj _ => (intOf vj).toNat - (intOf vi).toNat)
  case atStart => exact ⟨0, l.length, rfl, rfl, Nat.zero_le _, pos_le l k, Nat.le_refl _, hO.out.1⟩
  case round =>
    obtain ⟨i, j, rfl, rfl, hi, hj, hjn, H⟩ := hrel
    by_cases hij : i < j
    · obtain ⟨h, hh⟩ : ∃ h : Nat, h = (i + j) / 2 := ⟨_, rfl⟩
      have hlo : i ≤ h := by omega
      have hhi : h < j := by omega
      have n1 : (i : Int) < j := by omega
      have f1 : wrap64 ((i : Int) + j) = (i : Int) + j := IntWalk.wrap64_in _ (by have := hO.out.2.2; omega)
      have f1' : IntKind.i64.wrap ((i : Int) + j) = (i : Int) + j := IntWalk.i64_in _ (by have := hO.out.2.2; omega)
      have f2 : IntKind.u64.wrap ((i : Int) + j) = (i : Int) + j := IntWalk.u64_in _ (by have := hO.out.2.2; omega)
      have f3 : wrap64 (((i : Int) + j) / 2) = h := by rw [IntWalk.wrap64_in _ (by have := hO.out.2.2; omega)]; omega
      have f3' : IntKind.i64.wrap (((i : Int) + j) / 2) = h := by rw [IntWalk.i64_in _ (by have := hO.out.2.2; omega)]; omega
      have f4 : IntKind.i64.wrap ((h : Int) + 1) = (h : Int) + 1 := IntWalk.i64_in _ (by have := hO.out.2.2; omega)
      have n2 : ¬ ((h : Int) < 0) := by omega
      have n3 : (h : Int) < l.length := by omega
      have n4 : ¬ l.length ≤ h := by omega
      obtain ⟨x, hx⟩ : ∃ x, l[h]? = some x := ⟨l[h]'(by omega), List.getElem?_eq_getElem _⟩
      obtain ⟨g, cap2, hv, H2⟩ := H.slc_at (by omega)
      injection hv with hv _ hv2
      subst hv hv2
      have c0 := H2.slcC_rd (flat_at hx (j := 0) rfl)
      have c1 := H2.slcC_rd (flat_at hx (j := 1) rfl)
      simp only [Enc.size, Nat.add_zero] at c0 c1
      have hcmp := cmpf_name H x k
      have hX := Lib.hid (And.intro hx (And.intro hh (And.intro hi (And.intro hj (And.intro hjn (And.intro hlo hhi))))))
      clear H2 H hx hh hi hj hjn hlo hhi
      cases hlt : KLt.lt x.k k with
      | true =>
        have hn : cmp_name x k < 0 := by simp [cmp_name, hlt]
        have hp : h + 1 ≤ pos l k := by
          rcases Nat.lt_or_ge h (pos l k) with h1 | h1
          · omega
          · have := pos_ge hO.out.2.1 hX.out.1 h1
            exact absurd hlt (by rw [show KLt.lt x.k k = false from this]; simp)
        clear hlt
        go_wp2_with fail
        refine hcmp.mono ?_
        rintro e w2 ⟨rfl, H3⟩
        clear hcmp
        go_wp2_with fail
        go_roundw
        case rel => exact ⟨h + 1, j, rfl, rfl, hp, hX.out.2.2.2.1, hX.out.2.2.2.2.1, H3⟩
        case measure => have := hX.out; simp [intOf]; omega
      | false =>
        have hn : ¬ (cmp_name x k < 0) := by
          unfold cmp_name
          rw [hlt, if_neg (by simp)]
          split <;> omega
        have hp : pos l k ≤ h := by
          rcases Nat.lt_or_ge h (pos l k) with h1 | h1
          · have := pos_lt hX.out.1 h1
            exact absurd hlt (by rw [show KLt.lt x.k k = true from this]; simp)
          · exact h1
        clear hlt
        go_wp2_with fail
        refine hcmp.mono ?_
        rintro e w2 ⟨rfl, H3⟩
        clear hcmp
        go_wp2_with fail
        go_roundw
        case rel => exact ⟨i, h, rfl, rfl, hX.out.2.2.1, hp, by have := hX.out; omega, H3⟩
        case measure => have := hX.out; simp [intOf]; omega
    · have n1 : ¬ ((i : Int) < j) := by omega
      obtain rfl : i = pos l k := by omega
      by_cases hin : pos l k < l.length
      · have n2 : ¬ (((pos l k : Nat) : Int) < 0) := by omega
        have n3 : ((pos l k : Nat) : Int) < l.length := by omega
        have n4 : ¬ l.length ≤ pos l k := by omega
        obtain ⟨x, hx⟩ : ∃ x, l[pos l k]? = some x := ⟨l[pos l k]'(by omega), List.getElem?_eq_getElem _⟩
        obtain ⟨g, cap2, hv, H2⟩ := H.slc_at (by omega)
        injection hv with hv _ hv2
        subst hv hv2
        have c0 := H2.slcC_rd (flat_at hx (j := 0) rfl)
        have c1 := H2.slcC_rd (flat_at hx (j := 1) rfl)
        simp only [Enc.size, Nat.add_zero] at c0 c1
        have hcmp := cmpf_name H x k
        have hf : KLt.lt x.k k = false := pos_ge hO.out.2.1 hx (Nat.le_refl _)
        have he : (rowAt l k).isSome = (cmp_name x k == 0) := by
          unfold rowAt cmp_name
          rw [hx, hf, if_neg (by simp)]
          show (if KLt.lt k x.k = true then none else some x).isSome = _
          cases KLt.lt k x.k <;> rfl
        replace he := Lib.hid he
        clear H2 H hx hf hi hj hjn hij hin
        go_wp2_with fail
        refine hcmp.mono ?_
        rintro e w2 ⟨rfl, H3⟩
        clear hcmp
        go_wp2_with fail
        go_ret2
        exact ⟨by rw [he.out]; rfl, H3⟩
      · have n3 : ¬ (((pos l k : Nat) : Int) < l.length) := by omega
        have he : (rowAt l k).isSome = false := by
          unfold rowAt
          rw [List.getElem?_eq_none (by omega)]
          rfl
        replace he := Lib.hid he
        clear hi hj hjn hij hin
        go_wp2_with fail
        go_ret2
        exact ⟨by rw [he.out]; rfl, H⟩
end
end Go.Proofs.YtogcikilphakmaaGreatDoor

/-
  A range over a function whose round makes memory before its body; several marks at a function's way out. No program in sight.
-/
namespace Go.Proofs.YtogcikilphakmaaGreatDoor
open Go.RowKit Spl

section
variable {w0 w : World} {R L : List Pr} {P : Program} {n : Nat}
/-- .. where the assignment to the loop's variables makes memory (G: the round's act and what it has behind it). -/
theorem wpIn_rangeFunc_hd2 {α : Type} {g : Operand} {ps : Array Tmp} {assign body : Code} {Q : Exit → Act → World → Prop} {a : Act}
    {gf : Nat} {lb : Array Value} (hg : a.eval g = .func (.func gf) #[] lb) (eg : ∀ args w, (callFunc gf args).run P w = .ok (.enter gf args) w)
    {encs : α → Array Value} (hps : ∀ x, (encs x).size = ps.size) {It : List Pr} {xs : List α} (J : Nat → List Pr) (H : Hd w0 (all (J 0) :: It) w) (hseq : SeqHd P gf lb encs w0 It xs) (G : Nat → α → Act → List Pr → Prop)
    (hassign : ∀ (l i : Nat) (x : α) (X : List Pr) (W : World), xs[i]? = some x → Hd w0 (J i ++ X) W →
      assign.wpIn (Fence.wide.inRound l) n P (Exit.then (fun a' W' => ∃ Z, G i x a' Z ∧ Hd w0 (Z ++ X) W') (fun _ _ _ => False)) { tmps := (ps.zip (encs x)).foldl (fun t (p, v) => t.setIfInBounds p v) a.tmps, defers := [] } W)
    (hbody : ∀ (l i : Nat) (x : α) (X Z : List Pr) (a' : Act) (W : World), xs[i]? = some x → G i x a' Z → Hd w0 (Z ++ X) W → body.wpIn (Fence.wide.inRound l) n P (Exit.then (fun _ W' => Hd w0 (J (i + 1) ++ X) W') (fun _ _ _ => False)) a' W)
    (hdone : ∀ (D : Nat) (W : World), Hd w0 (J xs.length ++ pt D (.deferred (some [])) :: It) W → Q .normal { a with defers := { target := .collected D, args := #[] } :: a.defers } W) :
    (Code.rangeFunc g ps assign body).wpIn Fence.wide n P Q a w := by
  refine wpIn_rangeFunc ?_
  intro fn hfn
  show ∃ (l : Nat) (mark : List Deferred) (w₁ : World) (d : Deferred) (w₁' : World) (f : FuncId) (args : Array Value) (w₂ : World), (Instr.enterLoop fn a.tmps ps assign body none).run P w = _ ∧ _
  obtain ⟨rec, hrec⟩ : ∃ rec : LoopState → Option Code → Loop, rec = fun st pe => { state := st, pending := pe, fn, tmps := a.tmps, params := ps, assign, body, defers := w.heap.size } := ⟨_, rfl⟩
  obtain ⟨W1, hW1⟩ : ∃ W1, (w.alloc (.deferred (some []))).alloc (.loop (rec .ready none)) = W1 := ⟨_, rfl⟩
  have H1 : Hd w0 (pt (w.heap.size + 1) (.loop (rec .ready none)) :: pt w.heap.size (.deferred (some [])) :: all (J 0) :: It) W1 := by
    rw [← hW1]; exact H.fol
  let Y : Nat → Pr := fun i => all (pt (w.heap.size + 1) (.loop (rec .ready none)) :: pt w.heap.size (.deferred (some [])) :: J i)
  have HY : Hd w0 (Y 0 :: It) W1 := Hd.pack (L := _ :: _ :: J 0) (by
    have h3 := H1.b3.flat
    have h4 : Hd w0 (J 0 ++ (pt (w.heap.size + 1) (.loop (rec .ready none)) :: pt w.heap.size (.deferred (some [])) :: It)) W1 := h3
    exact h4.perm (by
      refine (List.perm_append_comm_assoc (J 0) [_, _] It))) 
  refine ⟨w.heap.size + 1, [{ target := .collected w.heap.size, args := #[] }], W1, { target := .fn (.func gf) lb, args := #[.func (.yield (w.heap.size + 1)) #[] #[]] }, W1, gf,
    #[.func (.yield (w.heap.size + 1)) #[] #[]] ++ lb, W1, ?_, ?_, ?_, ?_, (fun h => by cases h), ?_⟩
  · rw [← hW1, hrec]; exact run_enterLoop_outer _ _ _ _ _
  · simp only [resolve, hg]
    simp [go_sem]
  · intro f' hf'; trivial
  · simp [invoke, go_sem, eg]
  · refine (hseq (w.heap.size + 1) Y W1 (n - 1) HY ?_).mono ?_
    · intro i x X W m hx HW
      have HW2 : Hd w0 (pt (w.heap.size + 1) (.loop (rec .ready none)) :: pt w.heap.size (.deferred (some [])) :: (J i ++ X)) W := HW.flat
      have hl := HW2.heap
      have hy := run_yield (P := P) (args := encs x) hl (by rw [hrec]; exact hps x)
      rw [hrec] at hy
      have HWa : Hd w0 (J i ++ (pt (w.heap.size + 1) (.loop (rec .ready none)) :: pt w.heap.size (.deferred (some [])) :: X)) W := HW2.perm (List.perm_append_comm_assoc (J i) [_, _] X).symm
      refine ⟨fn, _, assign, body, hy, RoundIn.any rfl (roundIn_of_wpIn hfn (wpIn_mono (hassign _ i x _ W hx HWa) ?_))⟩
      rintro e0 a' W' hp0
      cases e0 with
      | normal =>
        obtain ⟨Z, hG, HZ⟩ := hp0
        have HZ2 : Hd w0 (pt (w.heap.size + 1) (.loop (rec .ready none)) :: pt w.heap.size (.deferred (some [])) :: (Z ++ X)) W' := HZ.perm (List.perm_append_comm_assoc Z [_, _] X)
        refine ⟨_, run_beginRound HZ2.heap (by rw [hrec]), ?_⟩
        have HW3 := HZ2.putO (.loop { rec .ready none with state := .busy })
        refine wpIn_mono (hbody _ i x (pt (w.heap.size + 1) (.loop { rec .ready none with state := .busy }) :: pt w.heap.size (.deferred (some [])) :: X) Z a' _ hx hG (HW3.perm ?_)) ?_
        · exact (List.perm_append_comm_assoc Z [_, _] X).symm
        · rintro e a3 W3 hp
          cases e with
          | normal =>
            have HW4 : Hd w0 (J (i + 1) ++ (pt (w.heap.size + 1) (.loop { rec .ready none with state := .busy }) :: pt w.heap.size (.deferred (some [])) :: X)) W3 := hp
            have HW5 : Hd w0 (pt (w.heap.size + 1) (.loop { rec .ready none with state := .busy }) :: pt w.heap.size (.deferred (some [])) :: (J (i + 1) ++ X)) W3 := HW4.perm (List.perm_append_comm_assoc (J (i + 1)) [_, _] X)
            have hr := run_endRound (P := P) none HW5.heap
            refine ⟨_, _, hr, rfl, ?_⟩
            have HW6 := HW5.putO (.loop { rec .ready none with state := .ready, pending := none })
            refine Hd.pack (L := _ :: _ :: J (i + 1)) ?_
            rw [hrec] at HW6 ⊢
            exact HW6
          | _ => exact hp.elim
      | _ => exact hp0.elim
    · rintro e W2 ⟨⟨v, rfl⟩, HW⟩
      have HW2 : Hd w0 (pt (w.heap.size + 1) (.loop (rec .ready none)) :: pt w.heap.size (.deferred (some [])) :: (J xs.length ++ It)) W2 := HW.flat
      have hr := run_endLoop (P := P) HW2.heap (by rw [hrec]; simp)
      have HW3 := HW2.putO (.loop { rec .ready none with state := .exhausted })
      rw [hrec] at hr HW3
      refine ⟨none, _, hr, hdone _ _ ?_⟩
      refine HW3.tail.perm ?_
      exact (List.perm_append_comm_assoc (J xs.length) [_] It).symm

/-- The way out of a function that held several such loops. -/
theorem leaves_marks {fn : Func} {tmps : Array Value} {Q : Ending → World → Prop} (h : ∀ W, Hd w0 L W → ∃ v, (results fn tmps).run P W = .ok v W ∧ Q (.returned v) W) : ∀ (ds : List Nat) {w : World}, Hd w0 (all (ds.map fun D => pt D (.deferred (some []))) :: L) w →
    LeavesInM Fence.wide n P fn tmps Q (ds.map fun D => { target := .collected D, args := #[] }) .returning w
  | [], _, H => h _ H.tail
  | D :: ds, w, H => by
    have H1 : Hd w0 (pt D (.deferred (some [])) :: ((ds.map fun D => pt D (.deferred (some []))) ++ L)) w := H.flat
    have H2 := (H1.putO (.deferred none)).tail
    exact ⟨by simp, .inl ⟨_, _, rfl, run_takeDeferred H1.heap, leaves_marks h ds (Hd.pack H2)⟩⟩
end
end Go.Proofs.YtogcikilphakmaaGreatDoor
