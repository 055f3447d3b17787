/-
  Merged texts of one proof: Ke7, Wi1, MixIn, Range2.
-/
import Derived.OrdersIn
import Derived.Test.YtogcikilphakmaaGreatDoorG05
import Derived.Test.YtogcikilphakmaaGreatDoorG09
import Derived.Test.YtogcikilphakmaaGreatDoorG33
import Derived.Test.YtogcikilphakmaaGreatDoorG44

/-
  Package kernel: Events, Dropped, Now, Run of no number. Ring.List. Every kernel.
-/
namespace Go.Proofs.YtogcikilphakmaaGreatDoor
open Go.RowKit Spl

section
variable {w0 w : World} {R : List Pr} {S : Hp} {z : KeV} {m : KeM}
set_option maxRecDepth 20000 in
set_option maxHeartbeats 1600000 in
theorem ringList {b : Nat} {r : RingM} (H : Hd w0 (RingP b r :: R) w) (hm : r.Ok) :
    Calls Tryz.prog 41 #[.pointer (some ⟨b, 0, none⟩)] w fun e w' => ∃ v, e = .returned v ∧ Hd w0 (SlE 65 v r.l :: RingP b r :: R) w' := by
  obtain ⟨v, f, gar, hq, H1⟩ := RingP.opened H
  have h1 := hm.l
  have h2 := hm.m1
  have hc := qList_ev (o := 0) H1 rfl rfl hq.gar (by have := hq.le; omega) (by omega)
  replace hq := Lib.hid hq
  go_enter Tryz.func41, Tryz.ntmps41
  go_wp2_with fail
  refine hc.mono ?_
  rintro e w1 ⟨g, rfl, H2⟩
  clear hc
  go_wp2_with fail
  go_ret
  refine ⟨_, rfl, ?_⟩
  have H3 := H2.slc_mk
  exact (RingP.shut H3.d3 hq.out).b2
set_option maxRecDepth 20000 in
set_option maxHeartbeats 1600000 in
theorem keEvents (H : Hd w0 (KeL z S m R) w) (hr : m.ev.Ok) :
    Calls Tryz.prog 18 #[.pointer (some ⟨z.k, 0, none⟩)] w fun e w' => ∃ v, e = .returned v ∧ Hd w0 (SlE 65 v m.ev.l :: KeL z S m R) w' := by
  obtain ⟨k, cl, rg, y⟩ := z
  have hc := ringList (H.k rg) hr
  have k4 := (show _ = some (Value.pointer (some ⟨rg, 0, none⟩)) from (H.k k).ce 4 rfl)
  go_enter Tryz.func18, Tryz.ntmps18
  go_wp2_with fail
  refine hc.mono ?_
  rintro e w1 ⟨v, rfl, H2⟩
  clear hc
  go_wp2_with fail
  go_ret
  exact ⟨v, rfl, H2.re⟩
set_option maxRecDepth 20000 in
set_option maxHeartbeats 1600000 in
theorem keDropped (H : Hd w0 (KeL z S m R) w) :
    Calls Tryz.prog 19 #[.pointer (some ⟨z.k, 0, none⟩)] w fun e w' => e = .returned (.int .i64 m.ev.gone) ∧ w = w' := by
  obtain ⟨k, cl, rg, y⟩ := z
  have hc := ringDropped (H.k rg)
  have k4 := (show _ = some (Value.pointer (some ⟨rg, 0, none⟩)) from (H.k k).ce 4 rfl)
  go_enter Tryz.func19, Tryz.ntmps19
  go_wp2_with fail
  refine hc.mono ?_
  rintro e w1 ⟨rfl, rfl⟩
  clear hc
  go_wp2_with fail
  go_ret
  exact ⟨rfl, rfl⟩
set_option maxRecDepth 20000 in
set_option maxHeartbeats 1600000 in
theorem keNow (H : Hd w0 (KeL z S m R) w) :
    Calls Tryz.prog 21 #[.pointer (some ⟨z.k, 0, none⟩)] w fun e w' => e = .returned (.int .i64 m.ck.now) ∧ w = w' := by
  obtain ⟨k, cl, rg, y⟩ := z
  have hc := clkNow (H.k cl)
  have k4 := (show _ = some (Value.pointer (some ⟨cl, 0, none⟩)) from (H.k k).ce 3 rfl)
  go_enter Tryz.func21, Tryz.ntmps21
  go_wp2_with fail
  refine hc.mono ?_
  rintro e w1 ⟨rfl, rfl⟩
  clear hc
  go_wp2_with fail
  go_ret
  exact ⟨rfl, rfl⟩
end
end Go.Proofs.YtogcikilphakmaaGreatDoor

/-
  Queue.All of the waiting jobs, its closure hands out all with their numbers to a body that never leaves.
-/
namespace Go.Proofs.YtogcikilphakmaaGreatDoor
open Go.RowKit Spl

attribute [local go_sem] Oper.semAt_some
section
variable {w0 w : World} {R : List Pr} {l : List WaitM}
set_option maxRecDepth 20000 in
theorem allQw {t o : Nat} (H : Hd w0 R w) : Calls Tryz.prog 132 #[.pointer (some ⟨t, o, none⟩)] w fun e w' => ∃ b, e = .returned (.func (.func 154) #[] #[.pointer (some ⟨b, 0, none⟩)]) ∧ Hd w0 (cel b 283 #[.pointer (some ⟨t, o, none⟩)] :: R) w' := by
  have HA : Hd w0 _ (w.alloc (.cells #[.pointer (some ⟨t, o, none⟩)] 283)) := H.fol
  go_enter Tryz.func132, Tryz.ntmps132
  go_wp2_with fail
  go_ret
  exact ⟨_, rfl, HA⟩
abbrev waitA (x : WaitM) : Array Value := #[.int .i64 x.job, .int .i64 x.task, .int .i64 x.level]
abbrev encW (p : WaitM × Nat) : Array Value := #[.int .i64 p.2, .agg (waitA p.1)]
set_option maxRecDepth 100000 in
set_option maxHeartbeats 4000000 in
theorem seqWait {b s o T f : Nat} {C : Array Value} {v : Value} {gar : List Value} (hC : C[o]? = some v) (hC1 : C[o + 1]? = some (.int .i64 f)) (hg : gar.length = f * 3) (hf : f ≤ 100000) (hn : l.length ≤ 100000) :
    SeqHd Tryz.prog 154 #[.pointer (some ⟨b, 0, none⟩)] encW w0 (cel b 283 #[.pointer (some ⟨s, o, none⟩)] :: cel s T C :: Slc 37 3 v (f + l.length) (gar ++ flat l) :: R) l.zipIdx := by
  intro lp Y W n H hY
  have c0 := (show _ = some (.pointer (some ⟨s, o, none⟩)) from (H.k b).ce 0 rfl)
  have H1 : Hd w0 (cel s T C :: Slc 37 3 v (f + l.length) (gar ++ flat l) :: Y 0 :: cel b 283 #[.pointer (some ⟨s, o, none⟩)] :: R) W := H.re
  have hcp := qList_wait H1 hC hC1 hg hf hn
  have hcpI := callsIn_wide (n := n - 1).2 hcp
  have hn' := Lib.hid hn
  clear hcp H H1 hC hC1
  refine callsIn_of_wp Tryz.func154 rfl trivial ?_ rfl
  simp only [Tryz.ntmps154, List.size_toArray, List.length_cons, List.length_nil, Nat.reduceAdd, Nat.reduceSub, Array.replicate_succ, Array.replicate_zero, List.push_toArray, List.append_toArray, List.nil_append, List.cons_append]
  gi_wp2_with (first | (refine ⟨trivial, fun h => (by cases h), ?_⟩; refine hcpI.mono ?_; rintro e W1 ⟨g, rfl, H2⟩))
  clear hcpI
  gi_loopw [8] (fun i wr => ∃ k : Nat, k ≤ l.length ∧ i = .int .i64 k ∧ Hd w0 (Y k :: SlEC 37 g l.length l :: cel s T C :: Slc 37 3 v (f + l.length) (gar ++ flat l) :: cel b 283 #[.pointer (some ⟨s, o, none⟩)] :: R) wr) (fun i _ => l.length - (intOf i).toNat)
  case atStart => exact ⟨0, Nat.zero_le _, rfl, H2.re⟩
  case round =>
    obtain ⟨k, hk, rfl, HI⟩ := hrel
    by_cases hlt : k < l.length
    · obtain ⟨x, hx⟩ : ∃ x, l[k]? = some x := ⟨l[k], List.getElem?_eq_getElem hlt⟩
      have f0 := HI.b2.slcC_rd (flat_at hx (j := 0) rfl)
      have f1 := HI.b2.slcC_rd (flat_at hx (j := 1) rfl)
      have f2 := HI.b2.slcC_rd (flat_at hx (j := 2) rfl)
      simp only [Enc.size, Nat.add_zero] at f0 f1 f2
      have HA : Hd w0 _ (wr.alloc (.cells #[.int .i64 x.job, .int .i64 x.task, .int .i64 x.level] 37)) := HI.fol
      have hz : l.zipIdx[k]? = some (x, k) := by simp [List.getElem?_zipIdx, hx]
      obtain ⟨fn, tmps, assign, body, hy, hR⟩ := hY k (x, k) _ _ (n - 1) hz HA.b2
      have q0 := (show _ = some (Value.int .i64 x.job) from HA.ce 0 rfl)
      have q1 := (show _ = some (Value.int .i64 x.task) from HA.ce 1 rfl)
      have q2 := (show _ = some (Value.int .i64 x.level) from HA.ce 2 rfl)
      have n4 : ¬ (k : Int) < 0 := by omega
      have n5 : (k : Int) < l.length := by omega
      have n6 : ¬ l.length ≤ k := by omega
      have g5 : IntKind.i64.wrap ((k : Int) + 1) = (k : Int) + 1 := IntWalk.i64_in _ (by have := hn'.out; omega)
      replace hx := Lib.hid hx
      replace hz := Lib.hid hz
      clear HA HI
      gi_wp2
      refine ⟨fun h => (by cases h), ?_⟩
      refine hR.mono ?_
      rintro e W3 ⟨rfl, H6⟩
      gi_wp2
      refine ⟨⟨k + 1, by omega, by go_num, Hd.re H6⟩, by simp [intOf]; omega⟩
    · obtain rfl : k = l.length := by omega
      gi_wp2
      go_end0
      rw [List.length_zipIdx]
      exact ⟨⟨_, rfl⟩, HI.re⟩
end
end Go.Proofs.YtogcikilphakmaaGreatDoor

/-
  A region that draws its order, walked in ONE order, inside a round of a range over a function. No program in sight.
-/
namespace Go.Proofs.YtogcikilphakmaaGreatDoor
open Go

section
variable {P : Program} {ops : Array Oper} {Q : Exit → Act → World → Prop} {md : Region.Mode} {S : World → Prop} {m : Nat} {lp n : Nat}

def plainOp (o : Oper) : Bool := match o.op with
  | .defer _ => false
  | _ => true
theorem wpIn_of_wp {o : Oper} (hd : plainOp o = true) (_hL : ∀ a w, ¬ Q .outgrown a w) {a : Act} {w : World} {K : Act → World → Prop} (h : o.wp P a w K Q) : o.wpIn (Fence.wide.inRound lp) n P a w K Q := by
  refine ⟨fun _ _ => trivial, ?_⟩
  rw [Oper.semAt_eq _ _ _ (fun c hc => by unfold plainOp at hd; rw [hc] at hd; cases hd)]
  unfold Oper.wp at h
  generalize (execOp a.eval o).run P w = r at *
  cases r with
  | ok x w' =>
    cases x with
    | enter f args => exact ⟨fun h => (by cases h), ((callsIn_wide.2 h).inRound lp)⟩
    | row r args =>
      refine ⟨fun h => (by cases h), fun c cs _ => ?_⟩
      obtain ⟨v, w2, hr, hs⟩ := h c cs
      exact ⟨v, w2, hr, (stepsIn_wide.2 hs : StepsIn (Machine.fenced P Fence.wide) P _ _)⟩
    | round l f t s b => exact h.elim
    | value v => exact h
    | skip => exact h
    | defer d => exact h
    | _ => exact h
  | halt x w' => cases x <;> exact h
theorem wpOpIn_of_wpOp (hd : ∀ (i : Nat) (o : Oper), ops[i]? = some o → plainOp o = true) (hL : ∀ a w, ¬ Q .outgrown a w) {i : Nat} {a : Act} {w : World} {K : Act → World → Prop} (h : wpOp P ops Q i K a w) : wpOpIn (Fence.wide.inRound lp) n P ops Q i K a w := by
  unfold wpOp at h
  unfold wpOpIn
  split
  · rename_i ho
    simpa [ho] using h
  · rename_i o ho
    simp only [ho] at h
    split
    · rename_i hw
      rw [if_pos hw] at h
      rcases h with h | ⟨_, a2, w2, h2⟩
      · exact wpIn_of_wp (hd i o ho) hL h
      · exact absurd h2 (hL _ _)
    · rename_i hw
      rw [if_neg hw] at h
      exact ⟨fun _ _ => trivial, h⟩
theorem wpAnyIn_of_wpAny (hd : ∀ (i : Nat) (o : Oper), ops[i]? = some o → plainOp o = true) (hL : ∀ a w, ¬ Q .outgrown a w) : ∀ (f : Nat) (listed : Array Bool) (a : Act) (w : World), wpAny P md ops Q f listed a w → wpAnyIn (Fence.wide.inRound lp) n P md ops Q f listed a w
  | 0, _, _, _, h => h
  | f + 1, _, _, _, h => ⟨h.1, fun i hi => wpOpIn_of_wpOp hd hL (wpOp_mono (fun a w h => wpAnyIn_of_wpAny hd hL f _ a w h) (h.2 i hi))⟩
/-- The region, walked so, in a round. -/
theorem wpIn_region_mixR {id : Nat} {l : List Oper} {a : Act} {w : World} (m : Nat) (ord : List (Nat × Bool)) (S : World → Prop) (hf : P.follows .mixedOrders = true) (hB : mixOk .any l.toArray m ord = true) (hp : l.all plainOp = true) (hS : S w.drew)
    (hQ : ∀ c (a : Act) d v w, Q (.panic c) (a.put d v) w → Q (.panic c) a w) (hL : ∀ a w, ¬ Q .outgrown a w)
    (h : wpMix P l.toArray Q S (wpList P l.toArray Q (l.drop m)) ord a w.drew) : (Code.region id l.toArray true).wpIn (Fence.wide.inRound lp) n P Q a w := by
  simp only [mixOk, Bool.and_eq_true, decide_eq_true_eq] at hB
  obtain ⟨⟨⟨⟨⟨hsel, hm⟩, hs⟩, hc⟩, hlen⟩, hord⟩ := hB
  refine wpIn_region_any hf (wpAnyIn_of_wpAny (fun i o ho => List.all_eq_true.1 hp o (List.mem_of_getElem? (by simpa using ho))) hL _ _ _ _ ?_)
  have inv0 : HeadInv .any l.toArray m (Array.replicate l.toArray.size false) :=
    ⟨by simp, fun j oj _ hl => (by rw [getD_replicate_false] at hl; cases hl), fun t _ ht => getD_in (by simpa using ht) (getD_replicate_false _ _)⟩
  have H := wpAnyM_mix (P := P) (Q := Q) (S := S) hsel (fun _ inv i hi hun t ht => tail_waits hs hc hm inv _ i rfl hi hun t ht) hQ ord _ a w.drew inv0 hord hS h
  have hdl : (l.drop m).length = l.toArray.size - m := by simp
  have H2 := wpAny_of_M (g := (l.drop m).length) (fun listed a w hL => wpAny_of_seq (l.drop m) m listed a w (fun j => by simp) (by rw [hdl]; exact hL.1) hL.2) ord.length _ _ _ H
  have e : ord.length + (l.drop m).length = l.toArray.size := by rw [hlen, hdl]; omega
  rw [e] at H2
  exact H2
theorem wpIn_region_mixR0 {id : Nat} {l : List Oper} {a : Act} {w : World} (ord : List (Nat × Bool)) (S : World → Prop) (hf : P.follows .mixedOrders = true) (hB : mixOk0 .any l.toArray ord = true) (hp : l.all plainOp = true) (hS : S w.drew)
    (hQ : ∀ c (a : Act) d v w, Q (.panic c) (a.put d v) w → Q (.panic c) a w) (hL : ∀ a w, ¬ Q .outgrown a w)
    (h : wpMix P l.toArray Q S (fun a w => Q .normal a w) ord a w.drew) : (Code.region id l.toArray true).wpIn (Fence.wide.inRound lp) n P Q a w := by
  simp only [mixOk0, Bool.and_eq_true, decide_eq_true_eq] at hB
  obtain ⟨⟨hsel, hlen⟩, hord⟩ := hB
  refine wpIn_region_any hf (wpAnyIn_of_wpAny (fun i o ho => List.all_eq_true.1 hp o (List.mem_of_getElem? (by simpa using ho))) hL _ _ _ _ ?_)
  have inv0 : HeadInv .any l.toArray l.toArray.size (Array.replicate l.toArray.size false) :=
    ⟨by simp, fun j oj _ hl => (by rw [getD_replicate_false] at hl; cases hl), fun t h1 h2 => absurd h2 (Nat.not_lt.2 h1)⟩
  have hd : l.toArray.toList.drop l.toArray.size = [] := by simp
  have H := wpAnyM_mix (P := P) (Q := Q) (S := S) hsel (fun _ _ i hi hun t ht hr => by
    obtain ⟨_, o, ho, _⟩ := mem_ready.1 hr
    have := (Array.getElem?_eq_some_iff.1 ho).1
    omega) hQ ord _ a w.drew inv0 hord hS (by rw [hd]; exact h)
  rw [hd] at H
  have H2 := wpAny_of_M (g := 0) (fun listed a w hL => by
    have h1 := hL.1
    rw [Nat.sub_self] at h1
    exact (⟨by simpa [Region.seqB] using h1, hL.2⟩ : wpAny P .any l.toArray Q 0 listed a w)) ord.length _ _ _ H
  rw [Nat.add_zero, hlen] at H2
  exact H2
end
end Go.Proofs.YtogcikilphakmaaGreatDoor

/-
  A range over a function whose round makes memory before its body; several marks at a function's way out. No program in sight.
-/
namespace Go.Proofs.YtogcikilphakmaaGreatDoor
open Go.RowKit Spl

section
variable {w0 w : World} {R L : List Pr} {P : Program} {n : Nat}
/-- .. where the assignment to the loop's variables makes memory (G: the round's act and what it has behind it). -/
theorem wpIn_rangeFunc_hd2 {α : Type} {g : Operand} {ps : Array Tmp} {assign body : Code} {Q : Exit → Act → World → Prop} {a : Act}
    {gf : Nat} {lb : Array Value} (hg : a.eval g = .func (.func gf) #[] lb) (eg : ∀ args w, (callFunc gf args).run P w = .ok (.enter gf args) w)
    {encs : α → Array Value} (hps : ∀ x, (encs x).size = ps.size) {It : List Pr} {xs : List α} (J : Nat → List Pr) (H : Hd w0 (all (J 0) :: It) w) (hseq : SeqHd P gf lb encs w0 It xs) (G : Nat → α → Act → List Pr → Prop)
    (hassign : ∀ (l i : Nat) (x : α) (X : List Pr) (W : World), xs[i]? = some x → Hd w0 (J i ++ X) W →
      assign.wpIn (Fence.wide.inRound l) n P (Exit.then (fun a' W' => ∃ Z, G i x a' Z ∧ Hd w0 (Z ++ X) W') (fun _ _ _ => False)) { tmps := (ps.zip (encs x)).foldl (fun t (p, v) => t.setIfInBounds p v) a.tmps, defers := [] } W)
    (hbody : ∀ (l i : Nat) (x : α) (X Z : List Pr) (a' : Act) (W : World), xs[i]? = some x → G i x a' Z → Hd w0 (Z ++ X) W → body.wpIn (Fence.wide.inRound l) n P (Exit.then (fun _ W' => Hd w0 (J (i + 1) ++ X) W') (fun _ _ _ => False)) a' W)
    (hdone : ∀ (D : Nat) (W : World), Hd w0 (J xs.length ++ pt D (.deferred (some [])) :: It) W → Q .normal { a with defers := { target := .collected D, args := #[] } :: a.defers } W) :
    (Code.rangeFunc g ps assign body).wpIn Fence.wide n P Q a w := by
  refine wpIn_rangeFunc ?_
  intro fn hfn
  show ∃ (l : Nat) (mark : List Deferred) (w₁ : World) (d : Deferred) (w₁' : World) (f : FuncId) (args : Array Value) (w₂ : World), (Instr.enterLoop fn a.tmps ps assign body none).run P w = _ ∧ _
  obtain ⟨rec, hrec⟩ : ∃ rec : LoopState → Option Code → Loop, rec = fun st pe => { state := st, pending := pe, fn, tmps := a.tmps, params := ps, assign, body, defers := w.heap.size } := ⟨_, rfl⟩
  obtain ⟨W1, hW1⟩ : ∃ W1, (w.alloc (.deferred (some []))).alloc (.loop (rec .ready none)) = W1 := ⟨_, rfl⟩
  have H1 : Hd w0 (pt (w.heap.size + 1) (.loop (rec .ready none)) :: pt w.heap.size (.deferred (some [])) :: all (J 0) :: It) W1 := by
    rw [← hW1]; exact H.fol
  let Y : Nat → Pr := fun i => all (pt (w.heap.size + 1) (.loop (rec .ready none)) :: pt w.heap.size (.deferred (some [])) :: J i)
  have HY : Hd w0 (Y 0 :: It) W1 := Hd.pack (L := _ :: _ :: J 0) (by
    have h3 := H1.b3.flat
    have h4 : Hd w0 (J 0 ++ (pt (w.heap.size + 1) (.loop (rec .ready none)) :: pt w.heap.size (.deferred (some [])) :: It)) W1 := h3
    exact h4.perm (by
      refine (List.perm_append_comm_assoc (J 0) [_, _] It))) 
  refine ⟨w.heap.size + 1, [{ target := .collected w.heap.size, args := #[] }], W1, { target := .fn (.func gf) lb, args := #[.func (.yield (w.heap.size + 1)) #[] #[]] }, W1, gf,
    #[.func (.yield (w.heap.size + 1)) #[] #[]] ++ lb, W1, ?_, ?_, ?_, ?_, (fun h => by cases h), ?_⟩
  · rw [← hW1, hrec]; exact run_enterLoop_outer _ _ _ _ _
  · simp only [resolve, hg]
    simp [go_sem]
  · intro f' hf'; trivial
  · simp [invoke, go_sem, eg]
  · refine (hseq (w.heap.size + 1) Y W1 (n - 1) HY ?_).mono ?_
    · intro i x X W m hx HW
      have HW2 : Hd w0 (pt (w.heap.size + 1) (.loop (rec .ready none)) :: pt w.heap.size (.deferred (some [])) :: (J i ++ X)) W := HW.flat
      have hl := HW2.heap
      have hy := run_yield (P := P) (args := encs x) hl (by rw [hrec]; exact hps x)
      rw [hrec] at hy
      have HWa : Hd w0 (J i ++ (pt (w.heap.size + 1) (.loop (rec .ready none)) :: pt w.heap.size (.deferred (some [])) :: X)) W := HW2.perm (List.perm_append_comm_assoc (J i) [_, _] X).symm
      refine ⟨fn, _, assign, body, hy, RoundIn.any rfl (roundIn_of_wpIn hfn (wpIn_mono (hassign _ i x _ W hx HWa) ?_))⟩
      rintro e0 a' W' hp0
      cases e0 with
      | normal =>
        obtain ⟨Z, hG, HZ⟩ := hp0
        have HZ2 : Hd w0 (pt (w.heap.size + 1) (.loop (rec .ready none)) :: pt w.heap.size (.deferred (some [])) :: (Z ++ X)) W' := HZ.perm (List.perm_append_comm_assoc Z [_, _] X)
        refine ⟨_, run_beginRound HZ2.heap (by rw [hrec]), ?_⟩
        have HW3 := HZ2.putO (.loop { rec .ready none with state := .busy })
        refine wpIn_mono (hbody _ i x (pt (w.heap.size + 1) (.loop { rec .ready none with state := .busy }) :: pt w.heap.size (.deferred (some [])) :: X) Z a' _ hx hG (HW3.perm ?_)) ?_
        · exact (List.perm_append_comm_assoc Z [_, _] X).symm
        · rintro e a3 W3 hp
          cases e with
          | normal =>
            have HW4 : Hd w0 (J (i + 1) ++ (pt (w.heap.size + 1) (.loop { rec .ready none with state := .busy }) :: pt w.heap.size (.deferred (some [])) :: X)) W3 := hp
            have HW5 : Hd w0 (pt (w.heap.size + 1) (.loop { rec .ready none with state := .busy }) :: pt w.heap.size (.deferred (some [])) :: (J (i + 1) ++ X)) W3 := HW4.perm (List.perm_append_comm_assoc (J (i + 1)) [_, _] X)
            have hr := run_endRound (P := P) none HW5.heap
            refine ⟨_, _, hr, rfl, ?_⟩
            have HW6 := HW5.putO (.loop { rec .ready none with state := .ready, pending := none })
            refine Hd.pack (L := _ :: _ :: J (i + 1)) ?_
            rw [hrec] at HW6 ⊢
            exact HW6
          | _ => exact hp.elim
      | _ => exact hp0.elim
    · rintro e W2 ⟨⟨v, rfl⟩, HW⟩
      have HW2 : Hd w0 (pt (w.heap.size + 1) (.loop (rec .ready none)) :: pt w.heap.size (.deferred (some [])) :: (J xs.length ++ It)) W2 := HW.flat
      have hr := run_endLoop (P := P) HW2.heap (by rw [hrec]; simp)
      have HW3 := HW2.putO (.loop { rec .ready none with state := .exhausted })
      rw [hrec] at hr HW3
      refine ⟨none, _, hr, hdone _ _ ?_⟩
      refine HW3.tail.perm ?_
      exact (List.perm_append_comm_assoc (J xs.length) [_] It).symm

/-- The way out of a function that held several such loops. -/
theorem leaves_marks {fn : Func} {tmps : Array Value} {Q : Ending → World → Prop} (h : ∀ W, Hd w0 L W → ∃ v, (results fn tmps).run P W = .ok v W ∧ Q (.returned v) W) : ∀ (ds : List Nat) {w : World}, Hd w0 (all (ds.map fun D => pt D (.deferred (some []))) :: L) w →
    LeavesInM Fence.wide n P fn tmps Q (ds.map fun D => { target := .collected D, args := #[] }) .returning w
  | [], _, H => h _ H.tail
  | D :: ds, w, H => by
    have H1 : Hd w0 (pt D (.deferred (some [])) :: ((ds.map fun D => pt D (.deferred (some []))) ++ L)) w := H.flat
    have H2 := (H1.putO (.deferred none)).tail
    exact ⟨by simp, .inl ⟨_, _, rfl, run_takeDeferred H1.heap, leaves_marks h ds (Hd.pack H2)⟩⟩
end
end Go.Proofs.YtogcikilphakmaaGreatDoor
