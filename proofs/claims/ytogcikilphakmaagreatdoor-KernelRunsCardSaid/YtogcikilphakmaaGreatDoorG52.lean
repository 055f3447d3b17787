/-
  Merged texts of one proof: KeI, KrM, KrL, Kr1, KtM, Kt1.
-/
import Derived.Test.YtogcikilphakmaaGreatDoorG07
import Derived.Test.YtogcikilphakmaaGreatDoorG14
import Derived.Test.YtogcikilphakmaaGreatDoorG41
import Derived.Test.YtogcikilphakmaaGreatDoorG49
import Derived.Test.YtogcikilphakmaaGreatDoorG50
import Derived.Test.YtogcikilphakmaaGreatDoorG51

/-
  The kernel's calls under its plain law: Register, Release, Tick, Step, Run, Left. Every kernel that calls can make.
-/
namespace Go.Proofs.YtogcikilphakmaaGreatDoor
open Go.RowKit Spl

theorem allL_in {qs : List (List WaitM)} : ∀ {n : Nat} {y : WaitM × Nat}, y ∈ allL qs n → ∃ (k : Nat) (l : List WaitM), qs[k]? = some l ∧ y.1 ∈ l
  | 0, y, h => by cases h
  | n + 1, y, h => by
    have h2 : y ∈ (qs[n]?.getD []).map (fun x => (x, n + 1)) ++ allL qs n := h
    rcases List.mem_append.1 h2 with h3 | h3
    · obtain ⟨x, hx, rfl⟩ := List.mem_map.1 h3
      cases hq : qs[n]? with
      | none => rw [hq] at hx; cases hx
      | some l => rw [hq] at hx; exact ⟨n, l, hq, hx⟩
    · exact allL_in h3
theorem listQ_in {qs : List (List WaitM)} {x : WaitM} (h : x ∈ listQ qs) : ∃ (k : Nat) (l : List WaitM), qs[k]? = some l ∧ x ∈ l := by
  obtain ⟨y, hy, rfl⟩ := List.mem_map.1 h
  exact allL_in hy
namespace KeI
variable {m : KeM} {n : Nat}
theorem dues : ∀ {l : List Int} {m : KeM} {n : Nat} (_ : KeI m n) (_ : n + l.length ≤ 4611686018427387904), KeI (m.dues l).2 (n + l.length)
  | [], m, n, h, hn => h
  | i :: l, m, n, h, hn => by
    rw [List.length_cons] at hn ⊢
    have := dues (l := l) (h.due (by omega) i.toNat) (by omega)
    rw [show n + (l.length + 1) = n + 1 + l.length by omega]
    exact this
theorem tick1 (h : KeI m n) (hn : n + 65 ≤ 4611686018427387904) : KeI m.tick1.2 (n + 65) := by
  have h1 := tickL_len m.ck
  have h2 := h.k.len
  exact (dues (l := m.ck.tickL) (h.tickE (by omega)) (by omega)).more (by omega)
theorem ticks : ∀ {k : Nat} {m : KeM} {n : Nat} (_ : KeI m n) (_ : n + 65 * k ≤ 4611686018427387904), KeI (m.ticks k).2 (n + 65 * k)
  | 0, m, n, h, hn => h
  | k + 1, m, n, h, hn => by
    have := ticks (k := k) (h.tick1 (by omega)) (by omega)
    rw [show n + 65 * (k + 1) = n + 65 + 65 * k by omega]
    exact this
theorem run : ∀ {k : Nat} {m : KeM} {n : Nat} (_ : KeI m n) (_ : n + 3 * k ≤ 4611686018427387904), KeI (m.run k).2 (n + 3 * k)
  | 0, m, n, h, hn => h
  | k + 1, m, n, h, hn => by
    unfold KeM.run
    split
    · exact (h.step (by omega)).more (by omega)
    · have := run (k := k) (h.step (by omega)) (by omega)
      rw [show n + 3 * (k + 1) = n + 3 + 3 * k by omega]
      exact this
theorem lokJ (h : KeI m n) : ∀ j ∈ m.dp.co.jobs, LOk m.tk j.task j.pos := by
  intro j hj
  obtain ⟨r, hr, e1, e2⟩ := (h.d.c.j j hj).r
  have := (h.d.c.j j hj).p
  rw [← e2] at this
  refine ⟨by omega, r, by rw [Int.toNat_natCast]; exact hr, by omega, by omega⟩
theorem lokQ (h : KeI m n) {k : Nat} {l : List WaitM} {x : WaitM} (hk : m.dp.wq.qs[k]? = some l) (hx : x ∈ l) : LOk m.tk x.task 0 := by
  obtain ⟨r, hr, e⟩ := h.d.r k l x hk hx
  exact ⟨(h.d.q.e k l x hk hx).1, r, hr, by omega, by omega⟩
end KeI
section
variable {w0 w : World} {R : List Pr} {S : Hp} {m : KeM} {z : KeV} {k : Nat}
theorem keStepI (H : Hd w0 (KeL z S m R) w) (h : KeI m k) (hk : k + 4 ≤ 4611686018427387904) :
    Calls Tryz.prog 10 #[.pointer (some ⟨z.k, 0, none⟩)] w fun e w' => e = .returned (.agg (didA m.step.1)) ∧ ∃ S', Le S S' ∧ Hd w0 (KeL z S' m.step.2 R) w' :=
  keStep H h.dpS h.e (by have := h.eg; omega)
theorem keRunI {n : Nat} (H : Hd w0 (KeL z S m R) w) (h : KeI m k) (hn : n ≤ 4096) (hk : k + 3 * n + 4 ≤ 4611686018427387904) :
    Calls Tryz.prog 14 #[.pointer (some ⟨z.k, 0, none⟩), .int .i64 n] w fun e w' => e = .returned (.tuple #[.int .i64 (m.run n).1, .int .i64 0]) ∧ ∃ S', Le S S' ∧ Hd w0 (KeL z S' (m.run n).2 R) w' :=
  keRun (i := 0) (fun i m => KeI m (k + 3 * i)) (fun i m hi hP => ⟨hP.dpS, hP.e, by have := hP.eg; omega⟩) (fun i m hi hP => by
    have := hP.step (by omega)
    rw [show k + 3 * (i + 1) = k + 3 * i + 3 by omega]
    exact this) H h hn
theorem keTickI {n : Nat} (H : Hd w0 (KeL z S m R) w) (h : KeI m k) (h1 : 1 ≤ n) (h2 : n ≤ 1000) (h3 : (n : Int) ≤ 1099511627776 - m.ck.now) (hk : k + 65 * n + 1 ≤ 4611686018427387904) :
    Calls Tryz.prog 11 #[.pointer (some ⟨z.k, 0, none⟩), .int .i64 n] w fun e w' => ∃ v, e = .returned (.tuple #[v, .int .i64 0]) ∧ Hd w0 (SlE 37 v (m.ticks n).1 :: KeL z S (m.ticks n).2 R) w' :=
  keTick (i := k) (K := k + 65 * n) (fun i m => KeI m i) (fun i m hi hP => hP.keR (by omega)) (fun i m hi hP => hP.tickE (by omega)) (fun i m j hi _ hP => hP.due (by omega) j) (Nat.le_refl _) H h h1 h2 h3
theorem keReleaseI (H : Hd w0 (KeL z S m R) w) (h : KeI m k) (hk : k + 1 ≤ 4611686018427387904) (task : Int) :
    Calls Tryz.prog 9 #[.pointer (some ⟨z.k, 0, none⟩), .int .i64 task] w fun r w' => r = .returned (.tuple #[.int .i64 (if m.releaseE task = 0 then m.dp.count else -1), .int .i64 (m.releaseE task)]) ∧ Hd w0 (KeL z S (m.release task) R) w' := by
  have hR := h.keR (by omega)
  unfold KeM.release
  by_cases hr : m.ck.ready task = 0
  · obtain ⟨i, r, rfl, hrow⟩ := ready_pos hR hr
    have e1 : m.releaseE i = m.dp.releaseE m.tk i := by unfold KeM.releaseE; rw [if_pos hr, Int.toNat_natCast]
    rw [e1, Int.toNat_natCast]
    by_cases hD : m.dp.releaseE m.tk i = 0
    · rw [hD, if_pos rfl, if_pos rfl]
      exact keReleaseC H hR hrow hr hD
    · rw [if_neg hD, if_neg hD]
      exact keReleaseB H hR hrow hr rfl hD
  · have e1 : m.releaseE task = m.ck.ready task := by unfold KeM.releaseE; rw [if_neg hr]
    rw [e1, if_neg hr, if_neg hr]
    exact keReleaseA H hR rfl hr
theorem keRegisterI [Lay w0 R] (H : Hd w0 (KeL z S m R) w) (h : KeI m k) (hk : k + 1 ≤ 4611686018427387904) (x : TaskM) {nv : Value} (hs : Srg w0 R nv x.needs) (hL : x.needs.length ≤ 100000) :
    Calls Tryz.prog 6 #[.pointer (some ⟨z.k, 0, none⟩), taskA x nv] w fun e w' => e = .returned (.tuple #[.int .i64 (if m.checkE x = 0 then m.tk.rows.length else -1), .int .i64 (m.checkE x)]) ∧ ∃ S', Le S S' ∧ Hd w0 (KeL z S' (m.register x) R) w' :=
  keRegister H h.keC (h.keR (by omega)) x hs hL
theorem keLeftI (H : Hd w0 (KeL z S m R) w) (h : KeI m k) :
    Calls Tryz.prog 17 #[.pointer (some ⟨z.k, 0, none⟩)] w fun e w' => e = .returned (.int .i64 m.left) ∧ Hd w0 (KeL z S m R) w' :=
  keLeft H h.t.t h.d.q.ok (by have := (h.d.c.few h.t.t).1; omega) h.lokJ (fun x hx => by
    obtain ⟨i, l, hl, hxl⟩ := listQ_in hx
    exact h.lokQ hl hxl)
end
end Go.Proofs.YtogcikilphakmaaGreatDoor

/-
  KernelRuns' states, reckoned. No program in sight.
-/
namespace Go.Proofs.YtogcikilphakmaaGreatDoor
open Go.RowKit Spl

def loT : TaskM := ⟨⟨#[108, 111]⟩, 1, 4, [⟨0, 1⟩], ⟨#[108, 111, 99, 107, 32, 48, 32, 49, 59, 32, 112, 117, 115, 104, 32, 53, 59, 32, 115, 116, 111, 114, 101, 32, 48, 59, 32, 117, 110, 108, 111, 99, 107, 32, 48]⟩, 0, 0, 0⟩
def hiT : TaskM := ⟨⟨#[104, 105]⟩, 3, 6, [⟨0, 1⟩], ⟨#[108, 111, 99, 107, 32, 48, 32, 49, 59, 32, 108, 111, 97, 100, 32, 48]⟩, 3, 2, 0⟩
def x1T : TaskM := ⟨⟨#[120]⟩, 2, 1, [], ⟨#[]⟩, 0, 0, 0⟩
def x2T : TaskM := ⟨⟨#[120]⟩, 3, 6, [], ⟨#[]⟩, 0, 0, 0⟩
def y1T : TaskM := ⟨⟨#[121]⟩, 1, 0, [⟨0, 1⟩], ⟨#[]⟩, 0, 0, 0⟩
def y2T : TaskM := ⟨⟨#[121]⟩, 1, 0, [], ⟨#[]⟩, 0, 0, 0⟩
def q0 : KeM := KeM.new 10 [1]
def q1 : KeM := q0.register loT
def q2 : KeM := q1.register hiT
def q3 : KeM := q2.register x2T
def q4 : KeM := q3.release 0
def q5 : KeM := q4.step.2
def q6 : KeM := (q5.ticks 2).2
def q7 : KeM := q6.register y2T
def q8 : KeM := (q7.run 5).2
def q9 : KeM := (q8.run 9).2
theorem q0_new : newTk 10 [1] = 0 ∧ newTk (-1) [] = 1 := by decide
theorem q0_lo : q0.checkE loT = 0 := by kernel_rfl
theorem q1_hi : q1.checkE hiT = 0 ∧ q1.tk.rows.length = 1 := ⟨by kernel_rfl, by kernel_rfl⟩
theorem q2_x1 : q2.checkE x1T = 25 := by kernel_rfl
theorem q2_x2 : q2.checkE x2T = 0 ∧ q2.tk.rows.length = 2 := ⟨by kernel_rfl, by kernel_rfl⟩
theorem q3_r : q3.releaseE 0 = 0 ∧ q3.dp.count = 0 := ⟨by kernel_rfl, by kernel_rfl⟩
theorem q4_s : q4.step.1.started = true ∧ q4.step.1.done.op.kind = 1 := ⟨by kernel_rfl, by kernel_rfl⟩
theorem q5_t : (q5.ticks 2).1 = [⟨1, 1, 3⟩] ∧ q5.ck.now = 0 ∧ topI q6.dp.co.ce = 3 := ⟨by kernel_rfl, by kernel_rfl, by kernel_rfl⟩
theorem q6_y : q6.checkE y1T = 24 ∧ q6.checkE y2T = 0 ∧ q6.tk.rows.length = 3 := ⟨by kernel_rfl, by kernel_rfl, by kernel_rfl⟩
theorem q7_r : (q7.run 5).1 = 5 := by kernel_rfl
theorem q8_r : (q8.run 9).1 = 2 ∧ q9.left = 0 := ⟨by kernel_rfl, by kernel_rfl⟩
theorem q9_e : q9.releaseE 1 = 40 ∧ q9.releaseE 9 = 1 ∧ q9.ck.now = 2 ∧ q9.ev.gone = 0 := ⟨by kernel_rfl, by kernel_rfl, by kernel_rfl, by kernel_rfl⟩
theorem q9_v : (q9.ev.l.map (·.kind)).take 7 = [1, 1, 1, 2, 4, 5, 7] := by kernel_rfl
theorem q8_f : placeM q8.dp.co.jobs 1 = (1 : Nat) ∧ q8.dp.co.ar.fr[1]? = some ⟨6, [5]⟩ := ⟨by kernel_rfl, by kernel_rfl⟩
theorem q_inv : KeI q0 0 ∧ KeI q1 1 ∧ KeI q2 2 ∧ KeI q3 3 ∧ KeI q4 4 ∧ KeI q5 7 ∧ KeI q6 137 ∧ KeI q7 138 ∧ KeI q8 153 ∧ KeI q9 180 := by
  have h0 : KeI q0 0 := KeI.new (by decide) (by decide)
  have h1 : KeI q1 1 := h0.register (by decide) loT
  have h2 : KeI q2 2 := h1.register (by decide) hiT
  have h3 : KeI q3 3 := h2.register (by decide) x2T
  have h4 : KeI q4 4 := h3.release (by decide) 0
  have h5 : KeI q5 7 := h4.step (by decide)
  have h6 : KeI q6 137 := h5.ticks (k := 2) (by decide)
  have h7 : KeI q7 138 := h6.register (by decide) y2T
  have h8 : KeI q8 153 := h7.run (k := 5) (by decide)
  have h9 : KeI q9 180 := h8.run (k := 9) (by decide)
  exact ⟨h0, h1, h2, h3, h4, h5, h6, h7, h8, h9⟩
/-- All that the walk asks, of letters. -/
structure Sc13 (p0 p1 p2 p3 p4 p5 p6 p7 p8 p9 : KeM) : Prop where
  e0 : KeM.new 10 [1] = p0
  e1 : p0.register loT = p1
  e2 : p1.register hiT = p2
  e3 : p2.register x2T = p3
  e4 : p3.release 0 = p4
  e5 : p4.step.2 = p5
  e6 : (p5.ticks 2).2 = p6
  e7 : p6.register y2T = p7
  e8 : (p7.run 5).2 = p8
  e9 : (p8.run 9).2 = p9
  i0 : KeI p0 0
  i1 : KeI p1 1
  i2 : KeI p2 2
  i3 : KeI p3 3
  i4 : KeI p4 4
  i5 : KeI p5 7
  i6 : KeI p6 137
  i7 : KeI p7 138
  i8 : KeI p8 153
  i9 : KeI p9 180
  r0 : p0.checkE loT = 0
  r0l : p0.tk.rows.length = 0
  r1 : p1.checkE hiT = 0
  r1l : p1.tk.rows.length = 1
  r2 : p2.checkE x1T = 25
  r2x : p2.checkE x2T = 0
  r2l : p2.tk.rows.length = 2
  r3 : p3.releaseE 0 = 0
  r3c : p3.dp.count = 0
  r4 : p4.step.1.started = true
  r4k : p4.step.1.done.op.kind = 1
  r5 : (p5.ticks 2).1 = [⟨1, 1, 3⟩]
  r5n : p5.ck.now = 0
  r6 : topI p6.dp.co.ce = 3
  r6y : p6.checkE y1T = 24
  r6z : p6.checkE y2T = 0
  r6l : p6.tk.rows.length = 3
  r7 : (p7.run 5).1 = 5
  r8 : (p8.run 9).1 = 2
  r8p : placeM p8.dp.co.jobs 1 = (1 : Nat)
  r8f : p8.dp.co.ar.fr[1]? = some ⟨6, [5]⟩
  r9l : p9.left = 0
  r9a : p9.releaseE 1 = 40
  r9b : p9.releaseE 9 = 1
  r9n : p9.ck.now = 2
  r9g : p9.ev.gone = 0
  r9v : (p9.ev.l.map (·.kind)).take 7 = [1, 1, 1, 2, 4, 5, 7]
theorem sc13 : ∃ p0 p1 p2 p3 p4 p5 p6 p7 p8 p9 : KeM, Sc13 p0 p1 p2 p3 p4 p5 p6 p7 p8 p9 :=
  ⟨q0, q1, q2, q3, q4, q5, q6, q7, q8, q9, rfl, rfl, rfl, rfl, rfl, rfl, rfl, rfl, rfl, rfl,
    q_inv.1, q_inv.2.1, q_inv.2.2.1, q_inv.2.2.2.1, q_inv.2.2.2.2.1, q_inv.2.2.2.2.2.1, q_inv.2.2.2.2.2.2.1, q_inv.2.2.2.2.2.2.2.1, q_inv.2.2.2.2.2.2.2.2.1, q_inv.2.2.2.2.2.2.2.2.2,
    q0_lo, by kernel_rfl, q1_hi.1, q1_hi.2, q2_x1, q2_x2.1, q2_x2.2, q3_r.1, q3_r.2, q4_s.1, q4_s.2, q5_t.1, q5_t.2.1, q5_t.2.2, q6_y.1, q6_y.2.1, q6_y.2.2, q7_r, q8_r.1, q8_f.1, q8_f.2, q8_r.2, q9_e.1, q9_e.2.1, q9_e.2.2.1, q9_e.2.2.2, q9_v⟩
end Go.Proofs.YtogcikilphakmaaGreatDoor

/-
  keellaw13: the tasks lo and hi. And an empty part of the heap.
-/
namespace Go.Proofs.YtogcikilphakmaaGreatDoor
open Go.RowKit Spl

attribute [local go_sem] Oper.semAt_some
theorem one_need {w0 w : World} {R : List Pr} {g : Nat} (H : Hd w0 (cel g 58 #[.int .i64 0, .int .i64 1] :: R) w) : Hd w0 (SlE 58 (.slice (some ⟨g, 0, none⟩) 1 1) [(⟨0, 1⟩ : NeedM)] :: R) w :=
  ((show Hd w0 (cel g 58 (([.int .i64 0, .int .i64 1] : List Value) ++ []).toArray :: R) w from H).slcC_mk (n := 1) (cap := 1) (size := 2) rfl (Nat.le_refl _) (by unfold maxLen; omega) (by decide)).slc_mk
theorem one_int {w0 w : World} {R : List Pr} {g : Nat} {x : Int} (H : Hd w0 (cel g 3 #[.int .i64 x] :: R) w) : Hd w0 (SlE 3 (.slice (some ⟨g, 0, none⟩) 1 1) [x] :: R) w :=
  ((show Hd w0 (cel g 3 (([.int .i64 x] : List Value) ++ []).toArray :: R) w from H).slcC_mk (n := 1) (cap := 1) (size := 1) rfl (Nat.le_refl _) (by unfold maxLen; omega) (Nat.le_refl _)).slc_mk
section
variable {w0 w : World} {R : List Pr}
theorem Hd.ro_nil (H : Hd w0 R w) : Hd w0 (ro (fun _ => none) :: R) w :=
  ⟨H.1, fun _ => none, fun i => w.heap[i]?, fun _ => .inl rfl, by funext i; rfl, rfl, H.2⟩
set_option maxRecDepth 20000 in
set_option maxHeartbeats 1600000 in
theorem loSpec (H : Hd w0 R w) : Calls Tryz.prog 7 #[] w fun e w' => ∃ nv, e = .returned (taskA loT nv) ∧ Hd w0 (SlE 58 nv loT.needs :: R) w' := by
  have H1 : Hd w0 _ (w.alloc (.cells #[.string ⟨#[]⟩, .int .i64 0, .int .i64 0, .slice none 0 0, .string ⟨#[]⟩, .int .i64 0, .int .i64 0, .int .i64 0] 33)) := H.fol
  have H2 : Hd w0 _ ((w.alloc (.cells #[.string ⟨#[]⟩, .int .i64 0, .int .i64 0, .slice none 0 0, .string ⟨#[]⟩, .int .i64 0, .int .i64 0, .int .i64 0] 33)).alloc (.cells #[.int .i64 0, .int .i64 1] 58)) := H1.fol
  have hf := (H2.k w.heap.size).fact1
  simp only [Nat.reduceAdd] at hf
  go_split_ands
  go_enter Tryz.func7, Tryz.ntmps7
  go_wp2_with fail
  have H3 : Hd w0 _ ((w.alloc (.cells #[.string loT.nm, .int .i64 loT.lv, .int .i64 loT.fr, .slice (some ⟨w.heap.size + 1, 0, none⟩) 1 1, .string loT.cd, .int .i64 loT.p, .int .i64 loT.f, .int .i64 loT.g] 33)).alloc (.cells #[.int .i64 0, .int .i64 1] 58)) := H.fol
  refine bodyPost_ret (results_row rfl _ _ w.heap.size 33 #[.string loT.nm, .int .i64 loT.lv, .int .i64 loT.fr, .slice (some ⟨w.heap.size + 1, 0, none⟩) 1 1, .string loT.cd, .int .i64 loT.p, .int .i64 loT.f, .int .i64 loT.g] (0, 0) _ rfl (by exact (H3.k w.heap.size).heap) Tryz.underlying33 rfl (by kernel_rfl)) rfl ⟨_, rfl, ?_⟩
  exact one_need H3.re
set_option maxRecDepth 20000 in
set_option maxHeartbeats 1600000 in
theorem hiSpec (H : Hd w0 R w) : Calls Tryz.prog 8 #[] w fun e w' => ∃ nv, e = .returned (taskA hiT nv) ∧ Hd w0 (SlE 58 nv hiT.needs :: R) w' := by
  have H1 : Hd w0 _ (w.alloc (.cells #[.string ⟨#[]⟩, .int .i64 0, .int .i64 0, .slice none 0 0, .string ⟨#[]⟩, .int .i64 0, .int .i64 0, .int .i64 0] 33)) := H.fol
  have H2 : Hd w0 _ ((w.alloc (.cells #[.string ⟨#[]⟩, .int .i64 0, .int .i64 0, .slice none 0 0, .string ⟨#[]⟩, .int .i64 0, .int .i64 0, .int .i64 0] 33)).alloc (.cells #[.int .i64 0, .int .i64 1] 58)) := H1.fol
  have hf := (H2.k w.heap.size).fact1
  simp only [Nat.reduceAdd] at hf
  go_split_ands
  go_enter Tryz.func8, Tryz.ntmps8
  go_wp2_with fail
  have H3 : Hd w0 _ ((w.alloc (.cells #[.string hiT.nm, .int .i64 hiT.lv, .int .i64 hiT.fr, .slice (some ⟨w.heap.size + 1, 0, none⟩) 1 1, .string hiT.cd, .int .i64 hiT.p, .int .i64 hiT.f, .int .i64 hiT.g] 33)).alloc (.cells #[.int .i64 0, .int .i64 1] 58)) := H.fol
  refine bodyPost_ret (results_row rfl _ _ w.heap.size 33 #[.string hiT.nm, .int .i64 hiT.lv, .int .i64 hiT.fr, .slice (some ⟨w.heap.size + 1, 0, none⟩) 1 1, .string hiT.cd, .int .i64 hiT.p, .int .i64 hiT.f, .int .i64 hiT.g] (0, 0) _ rfl (by exact (H3.k w.heap.size).heap) Tryz.underlying33 rfl (by kernel_rfl)) rfl ⟨_, rfl, ?_⟩
  exact one_need H3.re
end
end Go.Proofs.YtogcikilphakmaaGreatDoor

/-
  KernelRuns answers true in every world.
-/
namespace Go.Proofs.YtogcikilphakmaaGreatDoor
open Go.RowKit Spl

attribute [local go_sem] Oper.semAt_some
section
variable {w0 w : World} {R : List Pr}
theorem one_wait {w0 w : World} {R : List Pr} {g : Nat} {a b c : Int} (H : Hd w0 (cel g 37 #[.int .i64 a, .int .i64 b, .int .i64 c] :: R) w) : Hd w0 (SlE 37 (.slice (some ⟨g, 0, none⟩) 1 1) [(⟨a, b, c⟩ : WaitM)] :: R) w :=
  ((show Hd w0 (cel g 37 (([.int .i64 a, .int .i64 b, .int .i64 c] : List Value) ++ []).toArray :: R) w from H).slcC_mk (n := 1) (cap := 1) (size := 3) rfl (Nat.le_refl _) (by unfold maxLen; omega) (Nat.le_refl _)).slc_mk
theorem kinds_at : ∀ k : Nat, k < 7 → ∃ κ : Int, ([1, 1, 1, 2, 4, 5, 7] : List Int)[k]? = some κ ∧ (#[.int .i64 1, .int .i64 1, .int .i64 1, .int .i64 2, .int .i64 4, .int .i64 5, .int .i64 7] : Array Value)[k]? = some (.int .i64 κ) := by
  intro k hk
  rcases k with _ | _ | _ | _ | _ | _ | _ | k
  all_goals first | exact ⟨_, rfl, rfl⟩ | omega
theorem srd_nil {α : Type} [Enc α] {w0 : World} {R : List Pr} : Srg w0 R (.slice none 0 0) ([] : List α) := .inl ⟨rfl, rfl⟩
set_option maxRecDepth 20000 in
set_option maxHeartbeats 16000000 in
theorem runs13 [Lay w0 R] (H : Hd w0 R w) : Calls Tryz.prog 3 #[] w fun e w' => e = .returned (.bool true) ∧ Hd w0 R w' := by
  obtain ⟨p0, p1, p2, p3, p4, p5, p6, p7, p8, p9, hsc⟩ := sc13
  replace hsc := Lib.hid hsc
  have h0 := keNewNo H (words := -1) (units := []) srd_nil (E := 1) (by decide) (by decide)
  go_enter Tryz.func3, Tryz.ntmps3
  go_wp2_with fail
  refine h0.mono ?_
  rintro e w1 ⟨rfl, H1⟩
  clear h0 H
  have H2 : Hd w0 _ (w1.alloc (.cells #[.int .i64 1] 3)) := H1.fol
  have H3 : Hd w0 (SlE 3 (.slice (some ⟨w1.heap.size, 0, none⟩) 1 1) [(1 : Int)] :: R) (w1.alloc (.cells #[.int .i64 1] 3)) := one_int H2.re
  have h0 := keNew (S := fun _ => none) (R := SlE 3 (.slice (some ⟨w1.heap.size, 0, none⟩) 1 1) [(1 : Int)] :: R) (Hd.ro_nil H3) (words := 10) (units := [1]) ((Srg.slE H3).of fun h => h.tail) (by decide)
  go_wp2_with fail
  refine h0.mono ?_
  rintro e w2 ⟨z, rfl, H4⟩
  clear h0 H3 H2 H1
  rw [hsc.out.e0] at H4
  obtain ⟨zk, zc, zr, ⟨zd, zo, zq, ⟨zl, zt, za, zu, ze⟩⟩⟩ := z
  have hl := loSpec H4
  go_wp2_with fail
  refine hl.mono ?_
  rintro e w3 ⟨nv, rfl, H5⟩
  clear hl H4
  have hr := keRegisterI (show Hd w0 (KeL ⟨zk, zc, zr, ⟨zd, zo, zq, ⟨zl, zt, za, zu, ze⟩⟩⟩ (fun _ => none) p0 (SlE 58 nv loT.needs :: R)) w3 from H5.re) hsc.out.i0 (by decide) loT (Srg.slE (show Hd w0 (SlE 58 nv loT.needs :: R) w3 from H5.re)) (by decide)
  rw [hsc.out.r0, hsc.out.r0l, hsc.out.e1, if_pos rfl] at hr
  go_wp2_with fail
  refine hr.mono ?_
  rintro e w4 ⟨rfl, S1, -, H6⟩
  clear hr H5
  have H7 : Hd w0 (KeL ⟨zk, zc, zr, ⟨zd, zo, zq, ⟨zl, zt, za, zu, ze⟩⟩⟩ S1 p1 R) w4 := H6.re
  have hl := hiSpec H7
  clear H6
  go_wp2_with fail
  refine hl.mono ?_
  rintro e w5 ⟨nv2, rfl, H8⟩
  clear hl H7
  have hr := keRegisterI (show Hd w0 (KeL ⟨zk, zc, zr, ⟨zd, zo, zq, ⟨zl, zt, za, zu, ze⟩⟩⟩ S1 p1 (SlE 58 nv2 hiT.needs :: R)) w5 from H8.re) hsc.out.i1 (by decide) hiT (Srg.slE (show Hd w0 (SlE 58 nv2 hiT.needs :: R) w5 from H8.re)) (by decide)
  rw [hsc.out.r1, hsc.out.r1l, hsc.out.e2, if_pos rfl] at hr
  go_wp2_with fail
  refine hr.mono ?_
  rintro e w6 ⟨rfl, S2, -, H9⟩
  clear hr H8
  have H10 : Hd w0 (KeL ⟨zk, zc, zr, ⟨zd, zo, zq, ⟨zl, zt, za, zu, ze⟩⟩⟩ S2 p2 R) w6 := H9.re
  clear H9
  have hr := keRegisterI H10 hsc.out.i2 (by decide) x1T srd_nil (by decide)
  have hx : p2.register x1T = p2 := by unfold KeM.register; rw [if_neg (by rw [hsc.out.r2]; decide)]
  rw [hsc.out.r2, hx, if_neg (by decide)] at hr
  clear hx
  go_wp2_with fail
  refine hr.mono ?_
  rintro e w7 ⟨rfl, S3, -, H11⟩
  clear hr H10
  have hr := keRegisterI H11 hsc.out.i2 (by decide) x2T srd_nil (by decide)
  rw [hsc.out.r2x, hsc.out.r2l, hsc.out.e3, if_pos rfl] at hr
  go_wp2_with fail
  refine hr.mono ?_
  rintro e w8 ⟨rfl, S4, -, H12⟩
  clear hr H11
  have hr := keReleaseI H12 hsc.out.i3 (by decide) 0
  rw [hsc.out.r3, hsc.out.r3c, hsc.out.e4, if_pos rfl] at hr
  go_wp2_with fail
  refine hr.mono ?_
  rintro e w9 ⟨rfl, H13⟩
  clear hr H12
  have hr := keStepI H13 hsc.out.i4 (by decide)
  obtain ⟨D, hD⟩ : ∃ D, p4.step.1 = D := ⟨_, rfl⟩
  have hd1 := hsc.out.r4
  have hd2 := hsc.out.r4k
  rw [hD] at hr hd1 hd2
  rw [hsc.out.e5] at hr
  obtain ⟨ds, ⟨sj, st, sl⟩, di, ⟨dj, dt, ⟨ok, or, on, ov⟩, why, fin⟩⟩ := D
  dsimp only at hd1 hd2
  subst hd1
  subst hd2
  clear hD
  go_wp2_with fail
  refine hr.mono ?_
  rintro e w10 ⟨rfl, S5, -, H14⟩
  clear hr H13
  go_wp2_with fail
  have H15 : Hd w0 _ (w10.alloc (.cells #[.bool true, .int .i64 sj, .int .i64 st, .int .i64 sl, .bool di, .int .i64 dj, .int .i64 dt, .int .i64 1, .int .i64 or, .int .i64 on, .int .i64 ov, .int .i64 why, .bool fin] 43)) := H14.fol
  have ht := keTickI (n := 2) (show Hd w0 (KeL ⟨zk, zc, zr, ⟨zd, zo, zq, ⟨zl, zt, za, zu, ze⟩⟩⟩ S5 p5 (cel w10.heap.size 43 #[.bool true, .int .i64 sj, .int .i64 st, .int .i64 sl, .bool di, .int .i64 dj, .int .i64 dt, .int .i64 1, .int .i64 or, .int .i64 on, .int .i64 ov, .int .i64 why, .bool fin] :: R)) _ from H15.re) hsc.out.i5 (by decide) (by decide) (by rw [hsc.out.r5n]; decide) (by decide)
  rw [hsc.out.r5, hsc.out.e6] at ht
  clear H14 H15
  refine ht.mono ?_
  rintro e w11 ⟨lv, rfl, H16⟩
  clear ht
  have d0 := (show _ = some (Value.bool true) from (H16.k w10.heap.size).ce 0 rfl)
  have d7 := (show _ = some (Value.int .i64 1) from (H16.k w10.heap.size).ce 7 rfl)
  have k0 := (show _ = some (Value.pointer (some ⟨zl, 0, none⟩)) from (H16.k zk).ce 0 rfl)
  have hce : p6.dp.co.ce.length ≤ 100000 := by
    have h1 := hsc.out.i6.d.c.b.cl
    have h2 := hsc.out.i6.d.c.b.u.locksTop
    omega
  have hc := lkCeiling (x := ⟨zl, zt, za, zu, ze⟩) (S := S5) (m := p6.dp.co) (R := SlE 37 lv [(⟨1, 1, 3⟩ : WaitM)] :: R) (show Hd w0 (LkP ⟨zl, zt, za, zu, ze⟩ S5 p6.dp.co :: SlE 37 lv [(⟨1, 1, 3⟩ : WaitM)] :: R) w11 from H16.re) hce
  rw [hsc.out.r6] at hc
  clear hce
  go_wp2_with fail
  refine hc.mono ?_
  rintro e w12 ⟨rfl, rfl⟩
  clear hc
  have H17 : Hd w0 _ (w11.alloc (.cells #[.int .i64 1, .int .i64 1, .int .i64 3] 37)) := H16.fol
  have hsm := sameWait (RdL.of_slE (show Hd w0 (SlE 37 lv [(⟨1, 1, 3⟩ : WaitM)] :: R) _ from H17.re) (by simp)) (RdL.of_slE (one_wait (show Hd w0 (cel w11.heap.size 37 #[.int .i64 1, .int .i64 1, .int .i64 3] :: R) _ from H17.re)) (by simp))
  rw [decide_eq_true rfl] at hsm
  go_wp2_with fail
  refine hsm.mono ?_
  rintro e w12 ⟨rfl, n1, rfl⟩
  clear hsm d0 d7 k0
  have H18 : Hd w0 (KeL ⟨zk, zc, zr, ⟨zd, zo, zq, ⟨zl, zt, za, zu, ze⟩⟩⟩ S5 p6 R) _ := (H17.drewN n1).re
  clear H17 H16
  generalize hwA : World.drewN _ n1 = wA at H18 ⊢
  clear hwA
  have H19 : Hd w0 _ (wA.alloc (.cells #[.int .i64 0, .int .i64 1] 58)) := H18.fol
  have H20 : Hd w0 (SlE 58 (.slice (some ⟨wA.heap.size, 0, none⟩) 1 1) [(⟨0, 1⟩ : NeedM)] :: KeL ⟨zk, zc, zr, ⟨zd, zo, zq, ⟨zl, zt, za, zu, ze⟩⟩⟩ S5 p6 R) _ := one_need (show Hd w0 (cel wA.heap.size 58 #[.int .i64 0, .int .i64 1] :: KeL ⟨zk, zc, zr, ⟨zd, zo, zq, ⟨zl, zt, za, zu, ze⟩⟩⟩ S5 p6 R) _ from H19.re)
  have hr := keRegisterI (show Hd w0 (KeL ⟨zk, zc, zr, ⟨zd, zo, zq, ⟨zl, zt, za, zu, ze⟩⟩⟩ S5 p6 (SlE 58 (.slice (some ⟨wA.heap.size, 0, none⟩) 1 1) [(⟨0, 1⟩ : NeedM)] :: R)) _ from H20.re) hsc.out.i6 (by decide) y1T (Srg.slE (show Hd w0 (SlE 58 (.slice (some ⟨wA.heap.size, 0, none⟩) 1 1) [(⟨0, 1⟩ : NeedM)] :: R) _ from H20.re)) (by decide)
  have hx : p6.register y1T = p6 := by unfold KeM.register; rw [if_neg (by rw [hsc.out.r6y]; decide)]
  rw [hsc.out.r6y, hx, if_neg (by decide)] at hr
  clear hx H18 H19 H20
  go_wp2_with fail
  refine hr.mono ?_
  rintro e w13 ⟨rfl, S6, -, H21⟩
  clear hr
  have H22 : Hd w0 (KeL ⟨zk, zc, zr, ⟨zd, zo, zq, ⟨zl, zt, za, zu, ze⟩⟩⟩ S6 p6 R) w13 := H21.re
  clear H21
  have hr := keRegisterI H22 hsc.out.i6 (by decide) y2T srd_nil (by decide)
  rw [hsc.out.r6z, hsc.out.r6l, hsc.out.e7, if_pos rfl] at hr
  go_wp2_with fail
  refine hr.mono ?_
  rintro e w14 ⟨rfl, S7, -, H23⟩
  clear hr H22
  have hr := keRunI (n := 5) H23 hsc.out.i7 (by decide) (by decide)
  rw [hsc.out.r7, hsc.out.e8] at hr
  go_wp2_with fail
  refine hr.mono ?_
  rintro e w15 ⟨rfl, S8, -, H24⟩
  clear hr H23
  have k0 := (show _ = some (Value.pointer (some ⟨zl, 0, none⟩)) from (H24.k zk).ce 0 rfl)
  have hfew : p8.dp.co.jobs.length ≤ 1000 := by have := (hsc.out.i8.d.c.few hsc.out.i8.t.t).1; omega
  have hc := lkFrame (x := ⟨zl, zt, za, zu, ze⟩) (S := S8) (m := p8.dp.co) (show Hd w0 (LkP ⟨zl, zt, za, zu, ze⟩ S8 p8.dp.co :: cel zk 55 #[.pointer (some ⟨zl, 0, none⟩), .pointer (some ⟨zt, 0, none⟩), .pointer (some ⟨zd, 0, none⟩), .pointer (some ⟨zc, 0, none⟩), .pointer (some ⟨zr, 0, none⟩)] ::
    Clock zc p8.ck :: RingP zr p8.ev :: cel zd 78 #[.pointer (some ⟨zl, 0, none⟩), .pointer (some ⟨zt, 0, none⟩), .pointer (some ⟨zo, 0, none⟩), .pointer (some ⟨zq, 0, none⟩), .int .i64 p8.dp.count] :: cel zo 112 (coreRow zo zl) :: WqP zq p8.dp.wq :: TkP zt p8.tk S8 :: ro S8 :: R) w15 from H24.re) hsc.out.i8.d.c.b.a hfew hsc.out.r8p hsc.out.r8f
  clear hfew
  go_wp2_with fail
  refine hc.mono ?_
  rintro e w16 ⟨fv, rfl, H25⟩
  clear hc k0 H24
  have H26 : Hd w0 _ (w16.alloc (.cells #[.int .i64 5] 3)) := H25.fol
  have hsm := sameInt (xs := [5]) (ys := [5]) (Rds.of_slc (show Hd w0 (SlE 3 fv [(5 : Int)] :: R) _ from H26.re) (by decide)) (Rds.of_slc (one_int (show Hd w0 (cel w16.heap.size 3 #[.int .i64 5] :: R) _ from H26.re)) (by decide))
  rw [decide_eq_true rfl] at hsm
  go_wp2_with fail
  refine hsm.mono ?_
  rintro e w17 ⟨rfl, n2, rfl⟩
  clear hsm
  have H27 : Hd w0 (KeL ⟨zk, zc, zr, ⟨zd, zo, zq, ⟨zl, zt, za, zu, ze⟩⟩⟩ S8 p8 R) _ := (H26.drewN n2).re
  clear H26 H25
  generalize hwB : World.drewN _ n2 = wB at H27 ⊢
  clear hwB
  have hr := keRunI (n := 9) H27 hsc.out.i8 (by decide) (by decide)
  rw [hsc.out.r8, hsc.out.e9] at hr
  go_wp2_with fail
  refine hr.mono ?_
  rintro e w18 ⟨rfl, S9, -, H28⟩
  clear hr H27
  have hr := keLeftI H28 hsc.out.i9
  rw [hsc.out.r9l] at hr
  go_wp2_with fail
  refine hr.mono ?_
  rintro e w19 ⟨rfl, H29⟩
  clear hr H28
  have hr := keReleaseI H29 hsc.out.i9 (by decide) 1
  have hx : p9.release 1 = p9 := by unfold KeM.release; rw [if_neg (by rw [hsc.out.r9a]; decide)]
  rw [hsc.out.r9a, hx, if_neg (by decide)] at hr
  clear hx
  go_wp2_with fail
  refine hr.mono ?_
  rintro e w20 ⟨rfl, H30⟩
  clear hr H29
  have hr := keReleaseI H30 hsc.out.i9 (by decide) 9
  have hx : p9.release 9 = p9 := by unfold KeM.release; rw [if_neg (by rw [hsc.out.r9b]; decide)]
  rw [hsc.out.r9b, hx, if_neg (by decide)] at hr
  clear hx
  go_wp2_with fail
  refine hr.mono ?_
  rintro e w21 ⟨rfl, H31⟩
  clear hr H30
  have hr := keTickNo H31 (n := 0) (by rw [hsc.out.r9n]; decide) (.inl (by decide))
  have hr2 := keTickNo H31 (n := 1001) (by rw [hsc.out.r9n]; decide) (.inr (.inl (by decide)))
  go_wp2_with fail
  refine hr.mono ?_
  rintro e w22 ⟨rfl, rfl⟩
  clear hr
  go_wp2_with fail
  refine hr2.mono ?_
  rintro e w22 ⟨rfl, rfl⟩
  clear hr2
  have hr := keRunNo (n := -1) (by decide) w21 zk
  go_wp2_with fail
  refine hr.mono ?_
  rintro e w22 ⟨rfl, rfl⟩
  clear hr
  have hr := keEvents H31 hsc.out.i9.e
  go_wp2_with fail
  refine hr.mono ?_
  rintro e w22 ⟨ev, rfl, H32⟩
  clear hr H31
  have hlen : 7 ≤ p9.ev.l.length := by
    have := congrArg List.length hsc.out.r9v
    rw [List.length_take, List.length_map] at this
    simp at this
    omega
  have hmax : p9.ev.l.length ≤ 4096 := Nat.le_trans hsc.out.i9.e.l hsc.out.i9.e.m1
  obtain ⟨ge, ce, rfl, H33⟩ := H32.slc_at (by omega)
  have H34 : Hd w0 _ (w22.alloc (.cells #[.int .i64 1, .int .i64 1, .int .i64 1, .int .i64 2, .int .i64 4, .int .i64 5, .int .i64 7] 3)) := H33.fol
  clear H32
  obtain ⟨L, hL⟩ : ∃ L, p9.ev.l.length = L := ⟨_, rfl⟩
  rw [hL] at hlen hmax
  rw [hL]
  have hcell : Hid (∀ k : Nat, k < 7 → ∃ κ : Int, (w22.alloc (.cells #[.int .i64 1, .int .i64 1, .int .i64 1, .int .i64 2, .int .i64 4, .int .i64 5, .int .i64 7] 3)).cell? ⟨w22.heap.size, k, none⟩ = some (.int .i64 κ) ∧
      (w22.alloc (.cells #[.int .i64 1, .int .i64 1, .int .i64 1, .int .i64 2, .int .i64 4, .int .i64 5, .int .i64 7] 3)).cell? ⟨ge, k * 9, none⟩ = some (.int .i64 κ)) := Lib.hid fun k hk => by
    obtain ⟨κ, e1, e2⟩ := kinds_at k hk
    have e3 : (p9.ev.l.map (·.kind))[k]? = some κ := by
      have : ((p9.ev.l.map (·.kind)).take 7)[k]? = _ := congrArg (fun l => l[k]?) hsc.out.r9v
      rw [List.getElem?_take, if_pos hk, e1] at this
      exact this
    rw [List.getElem?_map] at e3
    cases hx : p9.ev.l[k]? with
    | none => rw [hx] at e3; cases e3
    | some x =>
      rw [hx] at e3
      have e3 : x.kind = κ := by injection e3
      refine ⟨κ, (show Hd w0 (cel w22.heap.size 3 _ :: R) _ from H34.re).ce k e2, ?_⟩
      have h := (show Hd w0 (SlcC 65 (Enc.size EvM) ge p9.ev.l.length ce (flat p9.ev.l) :: R) _ from H34.re).slcC_rd (flat_at hx (j := 0) rfl)
      rw [← e3]
      simpa only [Enc.size, Nat.add_zero] using h
  have H35 : Hd w0 (KeL ⟨zk, zc, zr, ⟨zd, zo, zq, ⟨zl, zt, za, zu, ze⟩⟩⟩ S9 p9 R) _ := H34.re
  clear H34 H33
  go_wp2_with fail
  generalize hwC : w22.alloc _ = wC at hcell H35 ⊢
  obtain ⟨gk, hgk⟩ : ∃ gk, w22.heap.size = gk := ⟨_, rfl⟩
  rw [hgk] at hcell ⊢
  replace hL := Lib.hid hL
  clear hwC hgk
  go_loopw [21] (fun y wr => ∃ k n : Nat, k ≤ 7 ∧ y = .int .i64 k ∧ wr = wC.drewN n) (fun y _ => 7 - (intOf y).toNat)
  case atStart => exact ⟨0, 0, Nat.zero_le _, rfl, rfl⟩
  case round =>
    obtain ⟨k, n, hk, rfl, rfl⟩ := hrel
    by_cases hlt : k < 7
    · obtain ⟨κ, c1, c2⟩ := hcell.out k hlt
      have m1 : (k : Int) < 7 := by omega
      have m2 : ¬ (k : Int) < 0 := by omega
      have m3 : ¬ 7 ≤ k := by omega
      have m4 : ¬ L ≤ k := by omega
      have m5 : (k : Int) < L := by omega
      have m6 : decide ((L : Int) ≤ k) = false := by simp; omega
      have g6 : IntKind.i64.wrap ((k : Int) + 1) = (k : Int) + 1 := IntWalk.i64_in _ (by omega)
      go_wp2_with (go_quiet (fail))
      go_roundw
      case rel => exact ⟨k + 1, _, by omega, by go_num, by first | rfl | (rw [World.drewN_drewN])⟩
      case measure => simp [intOf]; omega
    · obtain rfl : k = 7 := by omega
      have hd := keDropped (H35.drewN n)
      rw [hsc.out.r9g] at hd
      go_wp2_with fail
      refine hd.mono ?_
      rintro e w23 ⟨rfl, rfl⟩
      clear hd
      go_wp2_with fail
      go_ret
      exact ⟨rfl, (H35.drewN n).re⟩
end
end Go.Proofs.YtogcikilphakmaaGreatDoor

/-
  A kernel without periodic tasks: its ticks bring no jobs; what its trace keeps. No program in sight.
-/
namespace Go.Proofs.YtogcikilphakmaaGreatDoor
open Go.RowKit Spl

structure QuietK (m : KeM) (t : Nat) : Prop where
  i : KeI m (t + 1)
  p : ∀ x ∈ m.ck.l, x.period = 0
  now : m.ck.now = t
  most : m.ev.most = 4096
  len : m.ev.l.length = min (t + 1) 4096
  gone : m.ev.gone = t + 1 - 4096
  last : 0 < t → m.ev.l.getLast? = some ⟨7, 0, 0, ⟨0, 0, 0, 0⟩, 0, t⟩
theorem quiet_none {now : Int} : ∀ {l : List Pat} (k : Nat) (_ : ∀ x ∈ l, x.period = 0), dueIds now k l = [] ∧ l.map (Pat.tick now) = l
  | [], k, h => ⟨rfl, rfl⟩
  | p :: l, k, h => by
    have h1 := h p (by simp)
    obtain ⟨a, b⟩ := quiet_none (l := l) (now := now) (k + 1) (fun x hx => h x (by simp [hx]))
    have h2 : p.isDue now = false := by unfold Pat.isDue; rw [h1]; rfl
    have h3 : p.tick now = p := by unfold Pat.tick; rw [h2]; rfl
    refine ⟨?_, by rw [List.map_cons, b, h3]⟩
    show (if p.isDue now = true then _ else _) = _
    rw [h2]
    exact a
theorem QuietK.tick1 {m : KeM} {t : Nat} (h : QuietK m t) (ht : t < 1000000) : m.tick1.1 = [] ∧ QuietK m.tick1.2 (t + 1) := by
  have he : m.ck.atEnd = false := by unfold Clk.atEnd; rw [h.now]; simp; omega
  obtain ⟨a, b⟩ := quiet_none (now := m.ck.now + 1) 0 h.p
  have h1 : m.ck.tickL = [] := by unfold Clk.tickL; rw [he]; exact a
  have h2 : m.ck.tick = ⟨m.ck.now + 1, m.ck.l⟩ := by
    unfold Clk.tick
    rw [he]
    show (⟨m.ck.now + 1, m.ck.l.map (Pat.tick (m.ck.now + 1))⟩ : Clk) = _
    rw [b]
  have h3 : m.tick1 = ([], m.tickE) := by unfold KeM.tick1; rw [h1]; rfl
  have h4 := h.now
  have hev : m.tickE.ev = m.ev.put ⟨7, 0, 0, ⟨0, 0, 0, 0⟩, 0, ((t + 1 : Nat) : Int)⟩ := by
    have e1 : m.tickE.ev = m.ev.put { evTick with clock := m.ck.tick.now } := rfl
    rw [e1, h2]
    dsimp only
    rw [h4]
    rfl
  have hck : m.tickE.ck = ⟨m.ck.now + 1, m.ck.l⟩ := h2
  rw [h3]
  refine ⟨rfl, ⟨h.i.tickE (by omega), ?_, ?_, ?_, ?_, ?_, fun _ => ?_⟩⟩
  · rw [hck]; exact h.p
  · rw [hck, h4]; push_cast; rfl
  all_goals
    have e1 := h.most
    have e2 := h.len
    have e3 := h.gone
    rw [hev]
    unfold RingM.put
  · split <;> exact e1
  · split
    · rename_i hf
      rw [e1] at hf
      dsimp only
      rw [List.length_append, List.length_tail, List.length_singleton]
      omega
    · rename_i hf
      rw [e1] at hf
      dsimp only
      rw [List.length_append, List.length_singleton]
      omega
  · split
    · rename_i hf
      rw [e1] at hf
      dsimp only
      omega
    · rename_i hf
      rw [e1] at hf
      have h5 : t + 1 < 4096 := by
        rcases Nat.lt_or_ge (t + 1) 4096 with h5 | h5
        · exact h5
        · exact absurd (e2.trans (Nat.min_eq_right h5)) hf
      show m.ev.gone = _
      rw [e3, Nat.sub_eq_zero_of_le (Nat.le_of_lt h5), Nat.sub_eq_zero_of_le h5]
  · split <;> simp
theorem QuietK.ticks : ∀ {k : Nat} {m : KeM} {t : Nat} (_ : QuietK m t) (_ : t + k < 1000000), (m.ticks k).1 = [] ∧ QuietK (m.ticks k).2 (t + k)
  | 0, m, t, h, _ => ⟨rfl, h⟩
  | k + 1, m, t, h, ht => by
    obtain ⟨a, b⟩ := h.tick1 (by omega)
    obtain ⟨c, d⟩ := QuietK.ticks (k := k) b (by omega)
    rw [KeM.ticks_succ]
    dsimp only
    rw [a, c]
    refine ⟨rfl, ?_⟩
    rw [show t + (k + 1) = t + 1 + k by omega]
    exact d
def aT : TaskM := ⟨⟨#[97]⟩, 1, 0, [], ⟨#[]⟩, 0, 0, 0⟩
def u0 : KeM := KeM.new 4 []
def u1 : KeM := u0.register aT
theorem u0_i : KeI u0 0 := KeI.new (by decide) (by decide)
theorem u0_a : u0.checkE aT = 0 ∧ u0.tk.rows.length = 0 := ⟨by kernel_rfl, rfl⟩
theorem u1_q : QuietK u1 0 := by
  have e : u1 = KeM.event ⟨u0.tk.added aT, u0.dp, u0.ck.add 0 0 0, u0.ev⟩ (evRegister 0) := by
    unfold u1 KeM.register
    rw [if_pos u0_a.1]
    rfl
  refine ⟨u0_i.register (by decide) aT, ?_, ?_, ?_, ?_, ?_, fun h => absurd h (Nat.lt_irrefl _)⟩
  · rw [e]
    intro x hx
    have h2 : u0.ck.add 0 0 0 = ⟨0, [⟨0, 0, 0, 0, false⟩]⟩ := by rfl
    have h3 : x ∈ (u0.ck.add 0 0 0).l := hx
    rw [h2] at h3
    rw [List.mem_singleton] at h3
    subst h3; rfl
  all_goals rw [e]; rfl
end Go.Proofs.YtogcikilphakmaaGreatDoor

/-
  KernelTrace answers true at every number, in every world.
-/
namespace Go.Proofs.YtogcikilphakmaaGreatDoor
open Go.RowKit Spl

attribute [local go_sem] Oper.semAt_some
section
variable {w0 w : World} {R : List Pr}
set_option maxRecDepth 20000 in
set_option maxHeartbeats 16000000 in
theorem trace13 [Lay w0 R] (H : Hd w0 R w) (n : Int) : Calls Tryz.prog 4 #[.int .i64 n] w fun e w' => e = .returned (.bool true) ∧ Hd w0 R w' := by
  obtain ⟨p0, p1, e0, e1, i0, r0, r0l, q1⟩ : ∃ p0 p1 : KeM, KeM.new 4 [] = p0 ∧ p0.register aT = p1 ∧ KeI p0 0 ∧ p0.checkE aT = 0 ∧ p0.tk.rows.length = 0 ∧ QuietK p1 0 := ⟨u0, u1, rfl, rfl, u0_i, u0_a.1, u0_a.2, u1_q⟩
  have h0 := keNew (S := fun _ => none) (R := R) (Hd.ro_nil H) (words := 4) (units := []) srd_nil (by decide)
  obtain ⟨v, hv⟩ : ∃ v : Nat, within n 0 9 = v ∧ v ≤ 9 := by
    have := within_le (n := n) (lo := 0) (hi := 9) (by decide)
    exact ⟨(within n 0 9).toNat, by omega, by omega⟩
  obtain ⟨hv1, hv2⟩ := hv
  have hw := fun (w : World) => within_spec (w := w) n 0 9 (by decide) (by decide) (by decide)
  rw [hv1] at hw
  replace hw := Lib.hid hw
  replace e1 := Lib.hid e1
  replace r0 := Lib.hid r0
  replace r0l := Lib.hid r0l
  replace q1 := Lib.hid q1
  replace i0 := Lib.hid i0
  rw [e0] at h0
  clear H e0 hv1
  go_enter Tryz.func4, Tryz.ntmps4
  go_wp2_with fail
  refine h0.mono ?_
  rintro e w1 ⟨z, rfl, H1⟩
  clear h0
  have hwc := hw.out w1
  go_wp2_with fail
  refine hwc.mono ?_
  rintro e w2 ⟨rfl, rfl⟩
  clear hwc hw
  have hr := keRegisterI H1 i0.out (by decide) aT srd_nil (by decide)
  rw [r0.out, r0l.out, e1.out, if_pos rfl] at hr
  go_wp2_with fail
  refine hr.mono ?_
  rintro e w2 ⟨rfl, S1, -, H2⟩
  clear hr H1
  go_wp2_with fail
  go_loopw [7] (fun y wr => ∃ (k : Nat) (m : KeM), k ≤ 4 ∧ y = .int .i64 k ∧ QuietK m (1000 * k) ∧ Hd w0 (KeL z S1 m R) wr) (fun y _ => 4 - (intOf y).toNat)
  case atStart => exact ⟨0, p1, Nat.zero_le _, rfl, q1.out, H2⟩
  case round =>
    obtain ⟨k, m, hk, rfl, hq, H3⟩ := hrel
    clear H2
    by_cases hlt : k < 4
    · obtain ⟨a, b⟩ := hq.ticks (k := 1000) (by omega)
      have ht := keTickI (n := 1000) H3 hq.i (by omega) (by omega) (by rw [hq.now]; omega) (by omega)
      rw [a] at ht
      have m1 : (k : Int) < 4 := by omega
      have g6 : IntKind.i64.wrap ((k : Int) + 1) = (k : Int) + 1 := IntWalk.i64_in _ (by omega)
      replace b := Lib.hid b
      clear a hq
      go_wp2_with fail
      refine ht.mono ?_
      rintro e w3 ⟨lv, rfl, H4⟩
      clear ht
      obtain ⟨la, lc, rfl, -, -, -, -⟩ := H4.slc_form
      simp only [List.length_nil]
      go_wp2_with fail
      go_roundw
      case rel => exact ⟨k + 1, _, by omega, by simp, b.out, H4.re⟩
      case measure => simp [intOf]; omega
    · obtain rfl : k = 4 := by omega
      obtain ⟨a, b⟩ := hq.ticks (k := 90 + v) (by omega)
      have ht := keTickI (n := 90 + v) H3 hq.i (by omega) (by omega) (by rw [hq.now]; omega) (by omega)
      rw [a, show ((90 + v : Nat) : Int) = 90 + (v : Int) by omega] at ht
      rw [show 1000 * 4 + (90 + v) = 4090 + v by omega] at b
      obtain ⟨m2, hm2⟩ : ∃ m2, (m.ticks (90 + v)).2 = m2 := ⟨_, rfl⟩
      rw [hm2] at ht b
      have g1 : IntKind.i64.wrap (90 + (v : Int)) = 90 + (v : Int) := IntWalk.i64_in _ (by omega)
      have g2 : IntKind.i64.wrap (4091 + (v : Int)) = 4091 + (v : Int) := IntWalk.i64_in _ (by omega)
      have g3 : IntKind.i64.wrap (4090 + (v : Int)) = 4090 + (v : Int) := IntWalk.i64_in _ (by omega)
      replace b := Lib.hid b
      clear a hq hm2
      go_wp2_with fail
      refine ht.mono ?_
      rintro e w3 ⟨lv, rfl, H4⟩
      clear ht H3
      obtain ⟨la, lc, rfl, -, -, -, -⟩ := H4.slc_form
      simp only [List.length_nil]
      have H5 : Hd w0 (KeL z S1 m2 R) w3 := H4.re
      clear H4
      have hev := keEvents H5 b.out.i.e
      go_wp2_with fail
      refine hev.mono ?_
      rintro e w4 ⟨ev, rfl, H6⟩
      clear hev H5
      have hlen := b.out.len
      have hgone := b.out.gone
      have hlast := b.out.last (by omega)
      obtain ⟨L, hL⟩ : ∃ L, m2.ev.l.length = L := ⟨_, rfl⟩
      rw [hL] at hlen
      have hL1 : L ≤ 4096 := by omega
      have hL2 : 4091 ≤ L := by omega
      obtain ⟨J, hJ⟩ : ∃ J, L = J + 1 := ⟨L - 1, by omega⟩
      rw [List.getLast?_eq_getElem?, hL, hJ, Nat.add_sub_cancel] at hlast
      obtain ⟨ge, ce, rfl, H7⟩ := H6.slc_at (by omega)
      have H8 : Hd w0 (KeL z S1 m2 R) w4 := H6.tail
      have dd : ∀ (j : Nat) (u : Value), (Enc.cells (⟨7, 0, 0, ⟨0, 0, 0, 0⟩, 0, ((4090 + v : Nat) : Int)⟩ : EvM))[j]? = some u → w4.cell? ⟨ge, J * 9 + j, none⟩ = some u := fun j u hj => H7.slcC_rd (flat_at hlast hj)
      have hnow := keNow H8
      rw [b.out.now, show ((4090 + v : Nat) : Int) = 4090 + (v : Int) by omega] at hnow
      have hdr := keDropped H8
      obtain ⟨G, hG⟩ : ∃ G, m2.ev.gone = G := ⟨_, rfl⟩
      rw [hG] at hdr hgone
      rw [hL]
      have hrun := runs13 H8
      replace hrun := Lib.hid hrun
      replace hnow := Lib.hid hnow
      by_cases hv5 : v ≤ 5
      · have c1 : 4091 + (v : Int) ≤ 4096 := by omega
        have c2 : ¬ (4096 : Int) < 4091 + (v : Int) := by omega
        obtain rfl : G = 0 := by omega
        obtain rfl : L = 4091 + v := by omega
        obtain rfl : J = 4090 + v := by omega
        have g5 : IntKind.i64.wrap (4091 + (v : Int) - 1) = 4090 + (v : Int) := by
          rw [show 4091 + (v : Int) - 1 = 4090 + (v : Int) by omega]; exact g3
        have m5 : ¬ 4090 + (v : Int) < 0 := by omega
        have m6 : 4090 + (v : Int) < 4091 + (v : Int) := by omega
        have m7 : ¬ 4091 + v ≤ 4090 + v := by omega
        have d0 := dd 0 _ rfl
        have d1 := dd 1 _ rfl
        have d2 := dd 2 _ rfl
        have d3 := dd 3 _ rfl
        have d4 := dd 4 _ rfl
        have d5 := dd 5 _ rfl
        have d6 := dd 6 _ rfl
        have d7 := dd 7 _ rfl
        have d8 := dd 8 _ rfl
        rw [show ((4090 + v : Nat) : Int) = 4090 + (v : Int) by omega] at d8
        rw [Nat.add_zero] at d0
        clear dd hlast hlen hgone hL hJ hL1 hL2 H6 H7 hv5 hG b
        go_wp2_with fail
        refine hdr.mono ?_
        rintro e w5 ⟨rfl, rfl⟩
        go_wp2_with fail
        refine hdr.mono ?_
        rintro e w5 ⟨rfl, rfl⟩
        clear hdr
        go_wp2_with fail
        refine hnow.out.mono ?_
        rintro e w6 ⟨rfl, rfl⟩
        go_wp2_with fail
        refine hrun.out.mono ?_
        rintro e w7 ⟨rfl, H9⟩
        clear hrun hnow
        go_wp2_with fail
        go_ret
        exact ⟨rfl, H9.re⟩
      · obtain rfl : L = 4096 := by omega
        obtain rfl : J = 4095 := by omega
        have c1 : ¬ 4091 + (v : Int) ≤ 4096 := by omega
        have c2 : (4096 : Int) < 4091 + (v : Int) := by omega
        have g4 : IntKind.i64.wrap ((G : Int) + 4096) = 4091 + (v : Int) := by
          rw [show (G : Int) + 4096 = 4091 + (v : Int) by omega]; exact g2
        have d0 := dd 0 _ rfl
        have d1 := dd 1 _ rfl
        have d2 := dd 2 _ rfl
        have d3 := dd 3 _ rfl
        have d4 := dd 4 _ rfl
        have d5 := dd 5 _ rfl
        have d6 := dd 6 _ rfl
        have d7 := dd 7 _ rfl
        have d8 := dd 8 _ rfl
        rw [show ((4090 + v : Nat) : Int) = 4090 + (v : Int) by omega] at d8
        simp only [Nat.reduceMul, Nat.reduceAdd] at d0 d1 d2 d3 d4 d5 d6 d7 d8
        clear dd hlast hlen hgone hL hJ hL1 hL2 H6 H7 hv5 hG b
        go_wp2_with fail
        refine hdr.mono ?_
        rintro e w5 ⟨rfl, rfl⟩
        clear hdr
        go_wp2_with fail
        refine hnow.out.mono ?_
        rintro e w6 ⟨rfl, rfl⟩
        go_wp2_with fail
        refine hrun.out.mono ?_
        rintro e w7 ⟨rfl, H9⟩
        clear hrun hnow
        go_wp2_with fail
        go_ret
        exact ⟨rfl, H9.re⟩
end
end Go.Proofs.YtogcikilphakmaaGreatDoor
