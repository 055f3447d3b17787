/-
  Merged texts of one proof: Ke8, SameW, InvQ, InvU.
-/
import Derived.BigQuiet
import Derived.Deep.QuietTactic
import Derived.Lib.Hide
import Derived.Test.YtogcikilphakmaaGreatDoorG02
import Derived.Test.YtogcikilphakmaaGreatDoorG03
import Derived.Test.YtogcikilphakmaaGreatDoorG15
import Derived.Test.YtogcikilphakmaaGreatDoorG33
import Derived.Test.YtogcikilphakmaaGreatDoorG44
import Derived.Test.YtogcikilphakmaaGreatDoorG45
import Derived.Test.YtogcikilphakmaaGreatDoorG47
import Derived.Test.YtogcikilphakmaaGreatDoorRows

/-
  kernel.Left, Run. Every kernel.
-/
namespace Go.Proofs.YtogcikilphakmaaGreatDoor
open Go.RowKit Spl

attribute [local go_sem] Oper.semAt_some
def KeM.left (m : KeM) : Int := m.dp.left m.tk
section
variable {w0 w : World} {R : List Pr} {S : Hp} {m : KeM} {z : KeV}
set_option maxRecDepth 20000 in
theorem keLeft (H : Hd w0 (KeL z S m R) w) (ht : m.tk.Ok) (hq : m.dp.wq.Ok) (hn : m.dp.co.jobs.length ≤ 1000) (hj : ∀ j ∈ m.dp.co.jobs, LOk m.tk j.task j.pos) (hw : ∀ x ∈ listQ m.dp.wq.qs, LOk m.tk x.task 0) :
    Calls Tryz.prog 17 #[.pointer (some ⟨z.k, 0, none⟩)] w fun e w' => e = .returned (.int .i64 m.left) ∧ Hd w0 (KeL z S m R) w' := by
  obtain ⟨k, cl, rg, y⟩ := z
  have hc := dpLeft (show Hd w0 (DpL y m.tk S m.dp (cel k 55 #[.pointer (some ⟨y.x.l, 0, none⟩), .pointer (some ⟨y.x.t, 0, none⟩), .pointer (some ⟨y.d, 0, none⟩), .pointer (some ⟨cl, 0, none⟩), .pointer (some ⟨rg, 0, none⟩)] :: Clock cl m.ck :: RingP rg m.ev :: R)) w from H.re) ht hq hn hj hw
  have k4 := (show _ = some (Value.pointer (some ⟨y.d, 0, none⟩)) from (H.k k).ce 2 rfl)
  clear H
  go_enter Tryz.func17, Tryz.ntmps17
  go_wp2_with fail
  refine hc.mono ?_
  rintro e w1 ⟨rfl, H1⟩
  clear hc
  go_wp2_with fail
  go_ret
  exact ⟨rfl, H1.re⟩
theorem wpList_field_row {P : Program} {ops : Array Oper} {rest : List Oper} {o : Oper} {a : Act} {Q : Exit → Act → World → Prop} (hg : o.guard = none) (t : TypeId) (x : Operand) (i : Nat) (ho : o.op = .field t x i) (v : Value)
    (hv : (Instr.field t (a.eval x) i).run P w = .ok v w) (h : wpList P ops Q rest (a.put o.dst v) w) : wpList P ops Q (o :: rest) a w := by
  refine wpList_plain hg fun K hK => ?_
  unfold Oper.wp execOp
  simp only [ho]
  have e : ∀ (m : Sem Value), m.run P w = .ok v w → Sem.run P (do let y ← m; pure (Next.value y)) w = .ok (.value v) w := by
    intro m hm
    simp [hm, Result.andThen]
  have h2 := e _ hv
  show Oper.upon P o a K Q _
  rw [h2]
  exact hK _ _ h
/-- Run: n steps at most, until idle. -/
def KeM.run : Nat → KeM → Nat × KeM
  | 0, m => (0, m)
  | n + 1, m => if m.step.1.idle then (0, m.step.2) else ((m.step.2.run n).1 + 1, (m.step.2.run n).2)
set_option maxRecDepth 20000 in
set_option maxHeartbeats 1600000 in
theorem keRun {n i : Nat} (P : Nat → KeM → Prop) (hP : ∀ k m, k < i + n → P k m → DpS m.tk m.dp ∧ m.ev.Ok ∧ m.ev.gone + 4 ≤ 4611686018427387904) (hS : ∀ k m, k < i + n → P k m → P (k + 1) m.step.2) (H : Hd w0 (KeL z S m R) w) (hm : P i m) (hn : n ≤ 4096) :
    Calls Tryz.prog 14 #[.pointer (some ⟨z.k, 0, none⟩), .int .i64 n] w fun e w' => e = .returned (.tuple #[.int .i64 (m.run n).1, .int .i64 0]) ∧ ∃ S', Le S S' ∧ Hd w0 (KeL z S' (m.run n).2 R) w' := by
  have n1 : ¬ (n : Int) < 0 := by omega
  have n2 : ¬ (4096 : Int) < n := by omega
  obtain ⟨T, hT⟩ : ∃ T, m.run n = T := ⟨_, rfl⟩
  rw [hT]
  go_enter Tryz.func14, Tryz.ntmps14
  go_wp2_with fail
  go_loopw [14] (fun y wr => ∃ (k : Nat) (mk : KeM) (Sk : Hp), k ≤ n ∧ y = .int .i64 k ∧ T = ((mk.run (n - k)).1 + k, (mk.run (n - k)).2) ∧ P (i + k) mk ∧ Le S Sk ∧ Hd w0 (KeL z Sk mk R) wr) (fun y _ => n - (intOf y).toNat)
  case atStart => exact ⟨0, m, S, Nat.zero_le _, rfl, hT.symm, hm, fun _ _ h => h, H⟩
  case round =>
    obtain ⟨k, mk, Sk, hk, rfl, hTk, hPk, hle, H1⟩ := hrel
    clear H hT
    by_cases hlt : k < n
    · obtain ⟨p1, p2, p3⟩ := hP _ _ (by omega) hPk
      have hst := keStep H1 p1 p2 p3
      have hPn := hS _ _ (by omega) hPk
      obtain ⟨q, hq⟩ : ∃ q, n - k = q + 1 := ⟨n - k - 1, by omega⟩
      rw [hq] at hTk
      unfold KeM.run at hTk
      obtain ⟨⟨D, m2⟩, hD⟩ : ∃ D, mk.step = D := ⟨_, rfl⟩
      rw [hD] at hTk hPn hst
      dsimp only at hTk hPn hst
      have n3 : (k : Int) < n := by omega
      have g6 : IntKind.i64.wrap ((k : Int) + 1) = (k : Int) + 1 := IntWalk.i64_in _ (by omega)
      clear p1 p2 p3 H1 hD hPk
      obtain ⟨ds, dw, di, dd⟩ := D
      dsimp only at hTk hst
      cases di
      · rw [if_neg (by simp)] at hTk
        replace hTk := Lib.hid hTk
        replace hPn := Lib.hid hPn
        replace hq := Lib.hid hq
        go_wp2_with fail
        refine hst.mono ?_
        rintro e w1 ⟨rfl, S2, hle2, H2⟩
        clear hst
        (try dsimp only [didA])
        go_wp2_with (refine wpList_field_row rfl _ _ _ rfl (.bool false) rfl ?_)
        go_roundw
        case rel => exact ⟨k + 1, m2, S2, by omega, by simp, by rw [hTk.out, show n - (k + 1) = q by have := hq.out; omega]; simp; omega, by rw [← Nat.add_assoc]; exact hPn.out, fun _ _ h => hle2 _ _ (hle _ _ h), H2⟩
        case measure => simp [intOf]; omega
      · rw [if_pos rfl] at hTk
        subst hTk
        go_wp2_with fail
        refine hst.mono ?_
        rintro e w1 ⟨rfl, S2, hle2, H2⟩
        clear hst
        (try dsimp only [didA])
        go_wp2_with (refine wpList_field_row rfl _ _ _ rfl (.bool true) rfl ?_)
        go_ret2
        exact ⟨by simp, S2, fun _ _ h => hle2 _ _ (hle _ _ h), H2⟩
    · obtain rfl : k = n := by omega
      rw [Nat.sub_self] at hTk
      unfold KeM.run at hTk
      subst hTk
      go_wp2_with fail
      go_ret2
      exact ⟨by simp, Sk, hle, H1⟩
end
end Go.Proofs.YtogcikilphakmaaGreatDoor

/-
  keelbook.Same of two lists of waiting jobs. Every argument.
-/
namespace Go.Proofs.YtogcikilphakmaaGreatDoor
open Go.RowKit Spl

/-- The slice value v reads, in the world w, as the list l. -/
def RdL {α : Type} [Enc α] (w : World) (v : Value) (l : List α) : Prop := ∃ A cap, v = .slice A l.length cap ∧ l.length ≤ 1000000 ∧ (∀ k x, l[k]? = some x → ∃ b o, A = some ⟨b, o, none⟩ ∧ ∀ j u, (Enc.cells x)[j]? = some u → w.cell? ⟨b, o + k * Enc.size α + j, none⟩ = some u)
theorem RdL.of_slE {α : Type} [Enc α] {w0 w : World} {R : List Pr} {e : TypeId} {v : Value} {l : List α} (H : Hd w0 (SlE e v l :: R) w) (hn : l.length ≤ 1000000) : RdL w v l := by
  obtain ⟨A, cap, rfl, -, -, -, -⟩ := H.slc_form
  refine ⟨A, cap, rfl, hn, fun k x hx => ?_⟩
  have hk := lt_of_get? hx
  obtain ⟨g, c, he, H2⟩ := H.slc_at (by omega)
  injection he with e1 e2 e3
  refine ⟨g, 0, e1, fun j u hj => ?_⟩
  have h := H2.slcC_rd (flat_at hx hj)
  rw [Nat.zero_add]
  exact h
set_option maxHeartbeats 1600000 in
theorem sameWait {w : World} {a b : Value} {xs ys : List WaitM} (ha : RdL w a xs) (hb : RdL w b ys) :
    Calls Tryz.prog 13 #[a, b] w fun e w' => e = .returned (.bool (decide (xs = ys))) ∧ ∃ n, w' = w.drewN n := by
  obtain ⟨A, ca, rfl, hA, hA2⟩ := ha
  obtain ⟨B, cb, rfl, hB, hB2⟩ := hb
  by_cases hl : xs.length = ys.length
  · have hne : ((xs.length : Int) != ys.length) = false := by simp [hl]
    have hl' := Lib.hid hl
    have hyl : ys.length ≤ xs.length := by omega
    clear hl
    go_enter Tryz.func13, Tryz.ntmps13
    go_wp2
    go_loopw [5] (fun i wr => ∃ k n : Nat, k ≤ xs.length ∧ i = .int .i64 k ∧ xs.take k = ys.take k ∧ wr = w.drewN n) (fun i _ => xs.length - (intOf i).toNat)
    case atStart => exact ⟨0, 0, Nat.zero_le _, rfl, by simp, rfl⟩
    case round =>
      obtain ⟨k, n, hk, rfl, ht, rfl⟩ := hrel
      have hT := Lib.hid ht
      clear ht
      by_cases hlt : k < xs.length
      · have hky : k < ys.length := by have := hl'.out; omega
        obtain ⟨⟨xj, xt, xl⟩, hx⟩ : ∃ x, xs[k]? = some x := ⟨xs[k], List.getElem?_eq_getElem hlt⟩
        obtain ⟨⟨yj, yt, yl⟩, hy⟩ : ∃ y, ys[k]? = some y := ⟨ys[k], List.getElem?_eq_getElem hky⟩
        obtain ⟨b1, o1, rfl, c1⟩ := hA2 _ _ hx
        obtain ⟨b2, o2, rfl, c2⟩ := hB2 _ _ hy
        have d0 := c1 0 _ rfl
        have d1 := c1 1 _ rfl
        have d2 := c1 2 _ rfl
        have g0 := c2 0 _ rfl
        have g1 := c2 1 _ rfl
        have g2 := c2 2 _ rfl
        simp only [Enc.size, Nat.add_zero] at d0 d1 d2 g0 g1 g2
        have hX := Lib.hid hx
        have hY := Lib.hid hy
        clear hx hy c1 c2 hA2 hB2
        by_cases he : (⟨xj, xt, xl⟩ : WaitM) = ⟨yj, yt, yl⟩
        · injection he with e1 e2 e3
          subst e1 e2 e3
          go_wp2_with (go_quiet (fail))
          go_roundw
          case rel =>
            refine ⟨k + 1, _, by omega, by go_num, ?_, by first | rfl | (rw [World.drewN_drewN])⟩
            rw [List.take_add_one, List.take_add_one, hT.out, hX.out, hY.out]
          case measure => simp [intOf]; omega
        · have hfin : decide (xs = ys) = false := by
            apply decide_eq_false
            intro e
            have h1 := hX.out
            rw [e, hY.out] at h1
            injection h1 with h1
            exact he h1.symm
          by_cases h1 : xj = yj
          · subst h1
            by_cases h2 : xt = yt
            · subst h2
              have h3 : ¬ xl = yl := fun h => he (by rw [h])
              have hb3 : (xl == yl) = false := by simpa using h3
              go_wp2_with (go_quiet (fail))
              go_ret
              exact ⟨by first | rfl | (rw [hfin]; rfl), _, by first | rfl | (rw [World.drewN_drewN])⟩
            · have hb3 : (xt == yt) = false := by simpa using h2
              go_wp2_with (go_quiet (fail))
              go_ret
              exact ⟨by first | rfl | (rw [hfin]; rfl), _, by first | rfl | (rw [World.drewN_drewN])⟩
          · have hb3 : (xj == yj) = false := by simpa using h1
            go_wp2_with (go_quiet (fail))
            go_ret
            exact ⟨by first | rfl | (rw [hfin]; rfl), _, by first | rfl | (rw [World.drewN_drewN])⟩
      · obtain rfl : k = xs.length := by omega
        have hfin : decide (xs = ys) = true := by
          apply decide_eq_true
          have := hT.out
          rw [List.take_of_length_le (Nat.le_refl _), hl'.out, List.take_of_length_le (Nat.le_refl _)] at this
          exact this
        go_wp2
        go_ret
        exact ⟨by first | rfl | (rw [hfin]; rfl), _, rfl⟩
  · have hne : ((xs.length : Int) != ys.length) = true := by simpa using by omega
    have hfin : decide (xs = ys) = false := decide_eq_false (fun e => hl (by rw [e]))
    clear hl
    go_enter Tryz.func13, Tryz.ntmps13
    go_wp2
    go_ret
    exact ⟨by first | rfl | (rw [hfin]; rfl), 0, rfl⟩
end Go.Proofs.YtogcikilphakmaaGreatDoor

/-
  The waiting jobs' plain law: what every queue keeps. No program in sight.
-/
namespace Go.Proofs.YtogcikilphakmaaGreatDoor
open Go.RowKit Spl

theorem sum_setN : ∀ {l : List Nat} {k a b : Nat}, l[k]? = some a → (l.set k b).sum + a = l.sum + b
  | [], k, a, b, h => by simp at h
  | x :: l, 0, a, b, h => by simp at h; subst h; simp; omega
  | x :: l, k + 1, a, b, h => by
    have := sum_setN (l := l) (k := k) (a := a) (b := b) (by simpa using h)
    simp only [List.set_cons_succ, List.sum_cons]
    omega
theorem le_sumN : ∀ {l : List Nat} {k a : Nat}, l[k]? = some a → a ≤ l.sum
  | [], k, a, h => by simp at h
  | x :: l, 0, a, h => by simp at h; subst h; simp
  | x :: l, k + 1, a, h => by
    have := le_sumN (l := l) (k := k) (a := a) (by simpa using h)
    simp only [List.sum_cons]
    omega
def cntL (l : List WaitM) (t : Nat) : Nat := l.countP (fun x => x.task == (t : Int))
def cntQ (qs : List (List WaitM)) (t : Nat) : Nat := (qs.map fun l => cntL l t).sum
theorem cntL_one (x : WaitM) (t : Nat) : cntL [x] t = if x.task = t then 1 else 0 := by
  unfold cntL
  by_cases h : x.task = t <;> simp [h]
theorem cntL_append (l m : List WaitM) (t : Nat) : cntL (l ++ m) t = cntL l t + cntL m t := List.countP_append
theorem cntL_cons (x : WaitM) (l : List WaitM) (t : Nat) : cntL (x :: l) t = (if x.task = t then 1 else 0) + cntL l t := by
  rw [← cntL_one, ← cntL_append]; rfl
theorem sum_pick : ∀ (n : Nat) (x : Int), 0 ≤ x → ((List.range n).map fun t : Nat => if x = (t : Int) then 1 else 0).sum = if x < n then 1 else 0
  | 0, x, h => by simp; omega
  | n + 1, x, h => by
    have := sum_pick n x h
    rw [List.range_succ, List.map_append, List.sum_append, this]
    simp only [List.map_cons, List.map_nil, List.sum_cons, List.sum_nil]
    by_cases h1 : x < n
    · rw [if_pos h1, if_neg (by omega), if_pos (by omega)]; rfl
    · rw [if_neg h1]
      by_cases h2 : x = n
      · rw [if_pos h2, if_pos (by omega)]; rfl
      · rw [if_neg h2, if_neg (by omega)]; rfl
theorem sum_mapAdd (f g : Nat → Nat) : ∀ l : List Nat, (l.map fun t => f t + g t).sum = (l.map f).sum + (l.map g).sum
  | [] => rfl
  | t :: l => by
    have := sum_mapAdd f g l
    simp only [List.map_cons, List.sum_cons]
    omega
theorem sum_mapLe (f : Nat → Nat) (c : Nat) : ∀ l : List Nat, (∀ t ∈ l, f t ≤ c) → (l.map f).sum ≤ l.length * c
  | [], _ => by simp
  | t :: l, h => by
    have h1 := sum_mapLe f c l (fun u hu => h u (by simp [hu]))
    have h2 := h t (by simp)
    simp only [List.map_cons, List.sum_cons, List.length_cons, Nat.add_mul]
    omega
theorem len_sum {n : Nat} : ∀ {l : List WaitM}, (∀ x ∈ l, 0 ≤ x.task ∧ x.task < n) → l.length = ((List.range n).map fun t => cntL l t).sum
  | [], _ => by
    have : ∀ k : List Nat, (k.map fun t => cntL [] t).sum = 0 := by
      intro k
      induction k with
      | nil => rfl
      | cons t k ih => simp only [List.map_cons, List.sum_cons, ih]; rfl
    rw [this]; rfl
  | x :: l, h => by
    have h1 := len_sum (l := l) (fun y hy => h y (by simp [hy]))
    have h2 := h x (by simp)
    have h3 : (fun t => cntL (x :: l) t) = fun t : Nat => (if x.task = (t : Int) then 1 else 0) + cntL l t := by funext t; exact cntL_cons x l t
    rw [h3, sum_mapAdd, sum_pick n x.task h2.1, if_pos h2.2, List.length_cons, h1]
    exact Nat.add_comm _ _
theorem cntQ_at {qs : List (List WaitM)} {k : Nat} {l : List WaitM} (h : qs[k]? = some l) (t : Nat) : cntL l t ≤ cntQ qs t :=
  le_sumN (k := k) (by rw [List.getElem?_map, h]; rfl)
theorem cntQ_set {qs : List (List WaitM)} {k : Nat} {l l' : List WaitM} (h : qs[k]? = some l) (t : Nat) : cntQ (qs.set k l') t + cntL l t = cntQ qs t + cntL l' t := by
  unfold cntQ
  rw [List.map_set]
  exact sum_setN (by rw [List.getElem?_map, h]; rfl)
/-- What the waiting jobs keep; the jobs' numbers lie below n. -/
structure WqM.Inv (m : WqM) (n : Nat) : Prop where
  q : m.qs.length = 32
  a : m.act.length = 64
  c : ∀ t, t < 64 → m.act[t]? = some (cntQ m.qs t : Int)
  c8 : ∀ t, t < 64 → cntQ m.qs t ≤ 8
  e : ∀ (k : Nat) (l : List WaitM) (x : WaitM), m.qs[k]? = some l → x ∈ l → 0 ≤ x.task ∧ x.task < 64 ∧ x.level = k + 1 ∧ 0 ≤ x.job ∧ x.job < n
theorem WqM.Inv.len {m : WqM} {n : Nat} (h : m.Inv n) {l : List WaitM} (hl : l ∈ m.qs) : l.length ≤ 512 := by
  obtain ⟨k, hk⟩ := List.getElem?_of_mem hl
  rw [len_sum (n := 64) (fun x hx => ⟨(h.e k l x hk hx).1, (h.e k l x hk hx).2.1⟩)]
  have := sum_mapLe (fun t => cntL l t) 8 (List.range 64) (fun t ht => Nat.le_trans (cntQ_at hk t) (h.c8 t (List.mem_range.1 ht)))
  rw [List.length_range] at this
  omega
theorem WqM.Inv.ok {m : WqM} {n : Nat} (h : m.Inv n) : m.Ok := by
  refine ⟨h.q, h.a, fun l hl => by have := h.len hl; omega, fun x hx => ?_⟩
  obtain ⟨t, ht⟩ := List.getElem?_of_mem hx
  have h64 := lt_of_get? ht
  rw [h.a] at h64
  have h1 := h.c t h64
  rw [ht] at h1
  injection h1 with h1
  have := h.c8 t h64
  omega
theorem WqM.Inv.empty (n : Nat) : WqM.empty.Inv n := by
  have h0 : ∀ t k : Nat, cntQ (emptyQ k) t = 0 := by
    intro t k
    unfold emptyQ
    induction k with
    | zero => rfl
    | succ k ih =>
      unfold cntQ at ih ⊢
      rw [List.replicate_succ, List.map_cons, List.sum_cons, ih]; rfl
  refine ⟨by simp [WqM.empty, emptyQ], by simp [WqM.empty], fun t ht => ?_, fun t _ => ?_, fun k l x hk hx => ?_⟩
  · show (List.replicate 64 (0 : Int))[t]? = some (cntQ (emptyQ 32) t : Int)
    rw [h0, List.getElem?_replicate, if_pos ht]; rfl
  · show cntQ (emptyQ 32) t ≤ 8
    rw [h0]; omega
  · have hk2 : (List.replicate 32 ([] : List WaitM))[k]? = some l := hk
    rw [List.getElem?_replicate] at hk2
    split at hk2
    · injection hk2 with hk2
      subst hk2
      simp at hx
    · cases hk2
theorem WqM.Inv.put {m : WqM} {n : Nat} (h : m.Inv n) {t l : Int} (hE : m.putE t l n = 0) : (m.put t l n).Inv (n + 1) := by
  unfold WqM.put
  rw [if_pos hE]
  unfold WqM.putE at hE
  split at hE
  · cases hE
  · rename_i hr
    split at hE
    · cases hE
    · rename_i h8
      obtain ⟨i, rfl⟩ := Int.eq_ofNat_of_zero_le (show 0 ≤ t by omega)
      obtain ⟨k, rfl⟩ : ∃ k : Nat, l = k + 1 := ⟨(l - 1).toNat, by omega⟩
      have hk : k < m.qs.length := by rw [h.q]; omega
      have hi : i < 64 := by omega
      obtain ⟨L, hL⟩ : ∃ L, m.qs[k]? = some L := ⟨m.qs[k], List.getElem?_eq_getElem hk⟩
      have e1 : ((k : Int) + 1 - 1).toNat = k := by omega
      rw [e1, hL, Int.toNat_natCast, Option.getD_some]
      rw [Int.toNat_natCast] at h8
      have hci := h.c i hi
      rw [hci, Option.getD_some] at h8 ⊢
      have hset : ∀ t, cntQ (m.qs.set k (L ++ [⟨n, i, k + 1⟩])) t = cntQ m.qs t + if (i : Int) = t then 1 else 0 := by
        intro t
        have h1 := cntQ_set (l' := L ++ [⟨n, i, k + 1⟩]) hL t
        rw [cntL_append, cntL_one] at h1
        dsimp only at h1
        omega
      refine ⟨by rw [List.length_set]; exact h.q, by rw [List.length_set]; exact h.a, fun t ht => ?_, fun t ht => ?_, fun k' l' x hk' hx => ?_⟩
      · dsimp only
        rw [hset]
        by_cases hit : i = t
        · subst hit
          rw [List.getElem?_set_self (by rw [h.a]; exact hi), if_pos rfl]
          rfl
        · rw [List.getElem?_set_ne hit, h.c t ht, if_neg (by omega)]
          rfl
      · dsimp only
        rw [hset]
        have := h.c8 t ht
        by_cases hit : (i : Int) = t
        · have : i = t := by omega
          subst this
          rw [if_pos rfl]
          omega
        · rw [if_neg hit]; omega
      · dsimp only at hk'
        by_cases hkk : k = k'
        · subst hkk
          rw [List.getElem?_set_self hk] at hk'
          injection hk' with hk'
          subst hk'
          rcases List.mem_append.1 hx with hx | hx
          · have := h.e k L x hL hx
            refine ⟨this.1, this.2.1, this.2.2.1, this.2.2.2.1, by omega⟩
          · rw [List.mem_singleton] at hx
            subst hx
            dsimp only
            omega
        · rw [List.getElem?_set_ne hkk] at hk'
          have := h.e k' l' x hk' hx
          refine ⟨this.1, this.2.1, this.2.2.1, this.2.2.2.1, by omega⟩
theorem WqM.Inv.take {m : WqM} {n : Nat} (h : m.Inv n) : m.take.Inv n := by
  unfold WqM.take
  cases hh : hiQ m.qs m.qs.length with
  | zero => exact h
  | succ k =>
    obtain ⟨x, L, hL⟩ := hiQ_some hh
    dsimp only
    rw [hL, Option.getD_some]
    dsimp only
    have hx := h.e k _ x hL (by simp)
    obtain ⟨i, hi⟩ := Int.eq_ofNat_of_zero_le hx.1
    have hi64 : i < 64 := by omega
    rw [hi, Int.toNat_natCast, h.c i hi64, Option.getD_some]
    have hset : ∀ t, cntQ (m.qs.set k L) t + (if (i : Int) = t then 1 else 0) = cntQ m.qs t := by
      intro t
      have h1 := cntQ_set (l' := L) hL t
      rw [cntL_cons, hi] at h1
      omega
    have hk := lt_of_get? hL
    refine ⟨by rw [List.length_set]; exact h.q, by rw [List.length_set]; exact h.a, fun t ht => ?_, fun t ht => ?_, fun k' l' y hk' hy => ?_⟩
    · dsimp only
      have h1 := hset t
      by_cases hit : i = t
      · subst hit
        rw [if_pos rfl] at h1
        rw [List.getElem?_set_self (by rw [h.a]; exact hi64)]
        congr 1
        omega
      · rw [if_neg (by omega)] at h1
        rw [List.getElem?_set_ne hit, h.c t ht]
        congr 1
        omega
    · dsimp only
      have h1 := hset t
      have := h.c8 t ht
      omega
    · dsimp only at hk'
      by_cases hkk : k = k'
      · subst hkk
        rw [List.getElem?_set_self hk] at hk'
        injection hk' with hk'
        subst hk'
        exact h.e k _ y hL (by simp [hy])
      · rw [List.getElem?_set_ne hkk] at hk'
        exact h.e k' l' y hk' hy
end Go.Proofs.YtogcikilphakmaaGreatDoor

/-
  The table's plain law: how many locks there are. No program in sight.
-/
namespace Go.Proofs.YtogcikilphakmaaGreatDoor
open Go.RowKit Spl

def locksAll (l : List JobM) : Nat := (l.map fun j => j.h.locks.length).sum
theorem locksAll_cons (j : JobM) (l : List JobM) : locksAll (j :: l) = j.h.locks.length + locksAll l := rfl
theorem locksAll_app (a b : List JobM) : locksAll (a ++ b) = locksAll a + locksAll b := by simp [locksAll]
theorem locksAll_set {l : List JobM} {i : Nat} {j j' : JobM} (h : l[i]? = some j) : locksAll (l.set i j') + j.h.locks.length = locksAll l + j'.h.locks.length := by
  unfold locksAll
  rw [List.map_set]
  exact sum_setN (by rw [List.getElem?_map, h]; rfl)
theorem locksAll_ins (l : List JobM) (i : Nat) (j : JobM) : locksAll (l.take i ++ j :: l.drop i) = locksAll l + j.h.locks.length := by
  have h : locksAll (l.take i ++ l.drop i) = locksAll l := by rw [List.take_append_drop]
  rw [locksAll_app] at h
  rw [locksAll_app, locksAll_cons]
  omega
theorem locksAll_erase : ∀ {l : List JobM} {i : Nat} {j : JobM} (_ : l[i]? = some j), locksAll (l.eraseIdx i) + j.h.locks.length = locksAll l
  | [], i, j, h => by simp at h
  | x :: l, 0, j, h => by
    simp at h; subst h
    rw [List.eraseIdx_cons_zero, locksAll_cons]; omega
  | x :: l, i + 1, j, h => by
    have := locksAll_erase (l := l) (i := i) (j := j) (by simpa using h)
    rw [List.eraseIdx_cons_succ, locksAll_cons, locksAll_cons]; omega
theorem locksAll_mem : ∀ {l : List JobM} {j : JobM}, j ∈ l → j.h.locks.length ≤ locksAll l
  | x :: l, j, h => by
    rw [locksAll_cons]
    rcases List.mem_cons.1 h with rfl | h
    · omega
    · have := locksAll_mem h; omega
theorem locksAll_tot : ∀ {l : List JobM} (_ : ∀ j ∈ l, (j.h.locks.length : Int) ≤ tot (fun r => j.h.held[r]?.getD 0) 16), (locksAll l : Int) ≤ tot (heldSum l) 16
  | [], _ => by
    have : heldSum [] = fun _ => (0 : Int) := by funext r; rfl
    rw [this, tot_const]
    simp [locksAll]
  | j :: l, h => by
    have h1 := h j (by simp)
    have h2 := locksAll_tot (l := l) (fun x hx => h x (by simp [hx]))
    have h3 : heldSum (j :: l) = fun r => j.h.held[r]?.getD 0 + heldSum l r := by funext r; rfl
    rw [locksAll_cons, h3, tot_add]
    push_cast
    omega
theorem UnM.Inv.locksTop {m : UnM} (h : m.Inv) : locksAll m.jobs ≤ 4080 := by
  have h1 := locksAll_tot h.lkTot
  have h2 := h.heldTop
  omega
theorem rowAt_cons {α K : Type} [KLt K] [Keyed α K] (y : α) (l : List α) (k : K) : rowAt (y :: l) k = if KLt.lt (Keyed.key y : K) k = true then rowAt l k else if KLt.lt k (Keyed.key y) = true then none else some y := by
  by_cases h : KLt.lt (Keyed.key y : K) k = true
  · rw [if_pos h]
    unfold rowAt
    rw [pos_cons, if_pos h, List.getElem?_cons_succ]
  · rw [if_neg h]
    unfold rowAt
    rw [pos_cons, if_neg h]
    rfl
theorem rowAt_erase {α K : Type} [KLt K] [Keyed α K] : ∀ {l : List α} {k : K} (_ : Sorted l) {x : α} (_ : rowAt l k = some x), rowAt (l.eraseIdx (pos l k)) k = none
  | [], k, hs, x, h => by cases h
  | y :: l, k, hs, x, h => by
    have h2 := List.pairwise_cons.1 hs
    rw [rowAt_cons] at h
    by_cases hl : KLt.lt (Keyed.key y : K) k = true
    · rw [if_pos hl] at h
      rw [pos_cons, if_pos hl, List.eraseIdx_cons_succ, rowAt_cons, if_pos hl]
      exact rowAt_erase h2.2 h
    · rw [if_neg hl] at h
      split at h
      · cases h
      · rename_i hg
        injection h with h
        subst h
        rw [pos_cons, if_neg hl, List.eraseIdx_cons_zero]
        have hk : (Keyed.key y : K) = k := KLt.tot (by simpa using hl) (by simpa using hg)
        cases l with
        | nil => rfl
        | cons z l =>
          have hz := h2.1 z (by simp)
          rw [hk] at hz
          rw [rowAt_cons, if_neg (fun hh => by have := KLt.tr hz hh; rw [KLt.irr] at this; cases this), if_pos hz]
theorem UnM.locksN_le {m : UnM} (h : m.Inv) (job : Int) : m.locksN job ≤ locksAll m.jobs := by
  unfold UnM.locksN
  cases hr : rowAt m.jobs job with
  | none => exact Nat.zero_le _
  | some j => exact locksAll_mem (List.mem_of_getElem? (rowAt_some h.s hr).1)
theorem UnM.locked_all {m : UnM} (h : m.Inv) (job : Int) (r : Nat) (n : Int) : locksAll (m.locked job r n).jobs = locksAll m.jobs + 1 ∧ (m.locked job r n).units = m.units := by
  unfold UnM.locked
  cases hr : rowAt m.jobs job with
  | none => exact ⟨by dsimp only; rw [locksAll_ins]; rfl, rfl⟩
  | some j =>
    refine ⟨?_, rfl⟩
    have := locksAll_set (j' := (⟨j.job, ⟨j.h.locks ++ [⟨r, n⟩], j.h.held.set r ((j.h.held[r]?.getD 0) + n)⟩⟩ : JobM)) (rowAt_some h.s hr).1
    dsimp only at this ⊢
    rw [List.length_append, List.length_singleton] at this
    omega
theorem UnM.popped_all {m : UnM} (h : m.Inv) (job : Int) : locksAll (m.popped job).jobs = locksAll m.jobs - (if m.locksN job = 0 then 0 else 1) ∧ (m.popped job).locksN job = m.locksN job - 1 ∧ (m.popped job).units = m.units := by
  unfold UnM.popped
  cases hr : rowAt m.jobs job with
  | none =>
    have h0 : m.locksN job = 0 := by unfold UnM.locksN; rw [hr]
    dsimp only
    rw [h0]
    exact ⟨rfl, rfl, rfl⟩
  | some j =>
    have h0 : m.locksN job = j.h.locks.length := by unfold UnM.locksN; rw [hr]
    obtain ⟨hp, hkey⟩ := rowAt_some h.s hr
    obtain ⟨hne, -⟩ := h.lk j (List.mem_of_getElem? hp)
    obtain ⟨l, x, hl⟩ : ∃ l x, j.h.locks = l ++ [x] := ⟨_, _, (List.dropLast_concat_getLast hne).symm⟩
    have h1 : j.h.locks.getLast? = some x := by rw [hl]; simp
    have h2 : j.h.locks.length = l.length + 1 := by rw [hl]; simp
    have h3 : j.h.locks.dropLast = l := by rw [hl]; simp
    dsimp only
    rw [h1]
    dsimp only
    rw [h0, h2, if_neg (show ¬ l.length + 1 = 0 by omega), h3]
    by_cases hz : l.length + 1 = 1
    · rw [if_pos hz]
      have := locksAll_erase hp
      refine ⟨by omega, ?_, rfl⟩
      unfold UnM.locksN
      dsimp only
      rw [rowAt_erase h.s hr]
      dsimp only
      omega
    · rw [if_neg hz]
      have := locksAll_set (j' := (⟨j.job, ⟨l, j.h.held.set x.res.toNat ((j.h.held[x.res.toNat]?.getD 0) - x.units)⟩⟩ : JobM)) hp
      refine ⟨by dsimp only at this ⊢; omega, ?_, rfl⟩
      unfold UnM.locksN
      dsimp only
      rw [rowAt_set (y := (⟨j.job, ⟨l, j.h.held.set x.res.toNat ((j.h.held[x.res.toNat]?.getD 0) - x.units)⟩⟩ : JobM)) h.s hr rfl]
      rfl
theorem UnM.popN_all {m : UnM} (h : m.Inv) (job : Int) : ∀ k, k ≤ m.locksN job → locksAll (m.popN job k).jobs + k = locksAll m.jobs ∧ (m.popN job k).locksN job = m.locksN job - k ∧ (m.popN job k).units = m.units
  | 0, _ => ⟨rfl, rfl, rfl⟩
  | k + 1, hk => by
    obtain ⟨a, b, c⟩ := UnM.popN_all h job k (by omega)
    obtain ⟨d, e, f⟩ := UnM.popped_all (h.popN job k) job
    have hle := UnM.locksN_le (h.popN job k) job
    rw [b] at d e hle
    rw [if_neg (by omega)] at d
    show locksAll ((m.popN job k).popped job).jobs + (k + 1) = _ ∧ ((m.popN job k).popped job).locksN job = _ ∧ ((m.popN job k).popped job).units = _
    rw [d, e, f]
    exact ⟨by omega, by omega, c⟩
theorem UnM.unlockE_lock {m : UnM} {job res : Int} (h : m.unlockE job res = 0) : 0 < m.locksN job := by
  unfold UnM.unlockE at h
  split at h
  · cases h
  · unfold UnM.locksN
    cases hr : rowAt m.jobs job with
    | none => rw [hr] at h; cases h
    | some j =>
      rw [hr] at h
      dsimp only at h ⊢
      cases hl : j.h.locks with
      | nil => rw [hl] at h; simp at h
      | cons x l => simp
end Go.Proofs.YtogcikilphakmaaGreatDoor
