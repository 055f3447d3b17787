/-
  Merged texts of one proof: InvE.
-/
import Derived.Test.YtogcikilphakmaaGreatDoorG45
import Derived.Test.YtogcikilphakmaaGreatDoorG48
import Derived.Test.YtogcikilphakmaaGreatDoorG49

/-
  The kernel's plain law: what every kernel keeps, through every call. No program in sight.
-/
namespace Go.Proofs.YtogcikilphakmaaGreatDoor
open Go.RowKit Spl

def jobQ (qs : List (List WaitM)) (j : Int) : Nat := (qs.map fun l => l.countP (fun x => x.job == j)).sum
theorem jobQ_set {qs : List (List WaitM)} {k : Nat} {l l' : List WaitM} (h : qs[k]? = some l) (j : Int) : jobQ (qs.set k l') j + l.countP (fun x => x.job == j) = jobQ qs j + l'.countP (fun x => x.job == j) := by
  unfold jobQ
  rw [List.map_set]
  exact sum_setN (by rw [List.getElem?_map, h]; rfl)
theorem jobQ_pos {qs : List (List WaitM)} {k : Nat} {l : List WaitM} {x : WaitM} (h : qs[k]? = some l) (hx : x ∈ l) : 1 ≤ jobQ qs x.job := by
  have h1 : l.countP (fun y => y.job == x.job) ≤ jobQ qs x.job := le_sumN (l := qs.map fun l => l.countP (fun y => y.job == x.job)) (k := k) (by rw [List.getElem?_map, h]; rfl)
  have h2 : 0 < l.countP (fun y => y.job == x.job) := List.countP_pos_iff.2 ⟨x, hx, by simp⟩
  omega
theorem jobQ_zero {qs : List (List WaitM)} {j : Int} (h : ∀ (k : Nat) (l : List WaitM) (x : WaitM), qs[k]? = some l → x ∈ l → ¬ x.job = j) : jobQ qs j = 0 := by
  unfold jobQ
  rw [List.sum_eq_zero_iff_forall_eq_nat]
  intro n hn
  obtain ⟨l, hl, rfl⟩ := List.mem_map.1 hn
  obtain ⟨k, hk⟩ := List.getElem?_of_mem hl
  rw [List.countP_eq_zero]
  intro x hx
  simpa using h k l x hk hx
structure DpI (tk : TkM) (m : DpM) : Prop where
  c : CoI tk m.co m.count
  q : m.wq.Inv m.count
  r : ∀ (k : Nat) (l : List WaitM) (x : WaitM), m.wq.qs[k]? = some l → x ∈ l → ∃ r, tk.rows[x.task.toNat]? = some r ∧ r.t.lv = x.level
  d : ∀ j, jobQ m.wq.qs j + m.co.jobs.countP (fun x => x.job == j) ≤ 1
structure KeI (m : KeM) (n : Nat) : Prop where
  t : TkI m.tk
  d : DpI m.tk m.dp
  k : m.ck.Ok
  kl : m.ck.l.length = m.tk.rows.length
  e : m.ev.Ok
  eg : m.ev.gone ≤ n
  cn : m.dp.count ≤ n
theorem place_none {l : List StM} {j : Int} (h : l.countP (fun x => x.job == j) = 0) : placeM l j = -1 := by
  unfold placeM
  have : l.findIdx? (fun x => x.job == j) = none := by
    rw [List.findIdx?_eq_none_iff]
    intro x hx
    have := (List.countP_eq_zero.1 h) x hx
    simpa using this
  rw [this]
theorem may_all {m : DpM} {v : WaitM} (h : m.may = some v) : ∃ (k : Nat) (L : List WaitM), hiQ m.wq.qs m.wq.qs.length = k + 1 ∧ m.wq.qs[k]? = some (v :: L) ∧ topI m.co.ce < v.level ∧ (∀ j, m.co.jobs.getLast? = some j → j.level < v.level) := by
  have hn := may_next h
  unfold WqM.next at hn
  cases hh : hiQ m.wq.qs m.wq.qs.length with
  | zero => rw [hh] at hn; cases hn
  | succ k =>
    obtain ⟨x, L, hL⟩ := hiQ_some hh
    have hnx : m.wq.next = some x := by unfold WqM.next; rw [hh]; dsimp only; rw [hL]; rfl
    rw [may_next h] at hnx
    injection hnx with hnx
    subst hnx
    refine ⟨k, L, rfl, hL, ?_⟩
    unfold DpM.may at h
    rw [may_next h] at h
    dsimp only at h
    split at h
    · cases h
    · rename_i h1
      refine ⟨by omega, fun j hj => ?_⟩
      rw [hj] at h
      dsimp only at h
      split at h
      · cases h
      · omega
theorem DpI.above {tk : TkM} {m : DpM} (h : DpI tk m) {l : Int} (hl : ∀ j, m.co.jobs.getLast? = some j → j.level < l) : ∀ x ∈ m.co.jobs, x.level < l := by
  intro x hx
  rcases nil_or_snoc m.co.jobs with h0 | ⟨a, j, h0⟩
  · rw [h0] at hx; cases hx
  · have h1 := hl j (by rw [h0]; simp)
    have h2 := h.c.rise
    rw [h0] at hx h2
    rcases List.mem_append.1 hx with hx | hx
    · have := (rising_snoc.1 h2).2 x hx; omega
    · rw [List.mem_singleton] at hx; subst hx; exact h1
/-- The next waiting job, if it may start: its place, its row, and that it can start. -/
theorem DpI.next {tk : TkM} {m : DpM} (ht : TkI tk) (h : DpI tk m) {v : WaitM} (hm : m.may = some v) : (0 ≤ v.task ∧ v.task < 64 ∧ 0 ≤ v.job ∧ v.job < m.count) ∧ placeM m.co.jobs v.job = -1 ∧ ∃ r, tk.rows[v.task.toNat]? = some r ∧ r.t.lv = v.level ∧ m.co.ar.openE r.t.fr = 0 ∧ ∀ x ∈ m.co.jobs, x.level < r.t.lv := by
  obtain ⟨k, L, h1, h2, h3, h4⟩ := may_all hm
  have h5 := h.q.e k _ v h2 (by simp)
  obtain ⟨r, hr, hlv⟩ := h.r k _ v h2 (by simp)
  have h6 := h.above h4
  rw [← hlv] at h6
  refine ⟨by omega, place_none ?_, r, hr, hlv, h.c.room ht.t ht.b hr h6, h6⟩
  have := jobQ_pos h2 (x := v) (by simp)
  have := h.d v.job
  omega
theorem DpI.begin {tk : TkM} {m : DpM} (ht : TkI tk) (h : DpI tk m) : DpI tk (m.begin tk).2 ∧ (m.begin tk).2.count = m.count := by
  unfold DpM.begin
  cases hm : m.may with
  | none => exact ⟨h, rfl⟩
  | some v =>
    obtain ⟨hv, hp, r, hr, hlv, ho, hab⟩ := h.next ht hm
    dsimp only
    rw [hr]
    dsimp only
    obtain ⟨k, L, h1, h2, h3, h4⟩ := may_all hm
    have ht0 : m.wq.take.qs = m.wq.qs.set k L := by unfold WqM.take; rw [h1]; dsimp only; rw [h2]; rfl
    refine ⟨⟨h.c.begun ht.t ht.st ht.b hr hab hv.2.2.1 hv.2.2.2, h.q.take, fun k' l x hk' hx => ?_, fun j => ?_⟩, rfl⟩
    · dsimp only at hk'
      rw [ht0] at hk'
      by_cases hkk : k = k'
      · subst hkk
        rw [List.getElem?_set_self (lt_of_get? h2)] at hk'
        injection hk' with hk'
        subst hk'
        exact h.r k _ x h2 (by simp [hx])
      · rw [List.getElem?_set_ne hkk] at hk'
        exact h.r k' l x hk' hx
    · dsimp only
      rw [ht0]
      have h5 := jobQ_set (l' := L) h2 j
      have h6 := h.d j
      rw [List.countP_cons] at h5
      show jobQ _ j + (m.co.jobs ++ [_]).countP _ ≤ 1
      rw [List.countP_append, List.countP_cons, List.countP_nil]
      dsimp only
      omega
theorem DpI.dpS {tk : TkM} {m : DpM} (ht : TkI tk) (h : DpI tk m) : DpS tk m := by
  have h1 := h.c.few ht.t
  have h2 := h.c.b.cl
  have h3 := h.c.b.u.locksTop
  refine ⟨ht.t, h.q.ok, h.c.b.a, by omega, by omega, by omega, fun v hv => ?_, (h.begin ht).1.c.stepOk ht.t ht.st⟩
  obtain ⟨a, b, r, c, _, d, _⟩ := h.next ht hv
  exact ⟨a.1, a.2.1, a.2.2.1, b, r, c, d⟩
theorem DpI.step {tk : TkM} {m : DpM} (ht : TkI tk) (h : DpI tk m) : DpI tk (m.step tk).2 ∧ (m.step tk).2.count = m.count := by
  obtain ⟨h1, h2⟩ := h.begin ht
  unfold DpM.step
  cases hs : (m.begin tk).2.co.step tk with
  | none => exact ⟨h1, h2⟩
  | some y =>
    obtain ⟨d, co⟩ := y
    obtain ⟨h3, h4⟩ := h1.c.step ht.t ht.st hs
    exact ⟨⟨h3, h1.q, h1.r, fun j => by have := h1.d j; have := h4 j; dsimp only; omega⟩, h2⟩
theorem DpI.release {tk : TkM} {m : DpM} (h : DpI tk m) {i : Nat} (hE : m.releaseE tk i = 0) : DpI tk (m.release tk i) ∧ (m.release tk i).count = m.count + 1 := by
  unfold DpM.releaseE at hE
  unfold DpM.release
  cases hr : tk.rows[i]? with
  | none => rw [hr] at hE; cases hE
  | some r =>
    rw [hr] at hE
    dsimp only at hE ⊢
    rw [if_pos hE]
    refine ⟨?_, rfl⟩
    have hE2 := hE
    unfold WqM.putE at hE2
    split at hE2
    · cases hE2
    · rename_i hb
      obtain ⟨k, hk⟩ : ∃ k : Nat, (r.t.lv - 1).toNat = k := ⟨_, rfl⟩
      have hkl : k < m.wq.qs.length := by rw [h.q.q]; omega
      obtain ⟨L, hL⟩ : ∃ L, m.wq.qs[k]? = some L := ⟨m.wq.qs[k], List.getElem?_eq_getElem hkl⟩
      have hp : (m.wq.put i r.t.lv m.count).qs = m.wq.qs.set k (L ++ [⟨m.count, i, r.t.lv⟩]) := by
        unfold WqM.put; rw [if_pos hE, hk, hL]; rfl
      refine ⟨h.c.more (Nat.le_succ _), h.q.put hE, fun k' l x hk' hx => ?_, fun j => ?_⟩
      · dsimp only at hk'
        rw [hp] at hk'
        by_cases hkk : k = k'
        · subst hkk
          rw [List.getElem?_set_self hkl] at hk'
          injection hk' with hk'
          subst hk'
          rcases List.mem_append.1 hx with hx | hx
          · exact h.r k L x hL hx
          · rw [List.mem_singleton] at hx
            subst hx
            exact ⟨r, by dsimp only; rw [Int.toNat_natCast]; exact hr, rfl⟩
        · rw [List.getElem?_set_ne hkk] at hk'
          exact h.r k' l x hk' hx
      · dsimp only
        rw [hp]
        have h5 := jobQ_set (l' := L ++ [⟨m.count, i, r.t.lv⟩]) hL j
        have h6 := h.d j
        rw [List.countP_append, List.countP_cons, List.countP_nil] at h5
        dsimp only at h5
        by_cases hj : (m.count : Int) = j
        · have h7 : jobQ m.wq.qs j = 0 := jobQ_zero fun k l x hk hx he => by have := h.q.e k l x hk hx; omega
          have h8 : m.co.jobs.countP (fun x => x.job == j) = 0 := by
            rw [List.countP_eq_zero]
            intro x hx
            have := (h.c.j x hx).j1
            simp only [beq_iff_eq]
            omega
          split at h5 <;> omega
        · rw [if_neg (by simpa using hj)] at h5
          omega
theorem DpI.added {tk : TkM} {m : DpM} (h : DpI tk m) (x : TaskM) : DpI (tk.added x) m := by
  refine ⟨h.c.added x, h.q, fun k l y hk hy => ?_, h.d⟩
  obtain ⟨r, hr, e⟩ := h.r k l y hk hy
  refine ⟨r, ?_, e⟩
  show (tk.rows ++ [_])[_]? = _
  rw [List.getElem?_append_left (lt_of_get? hr)]
  exact hr
theorem clk_note_len (m : Clk) (i : Int) : (m.note i).l.length = m.l.length := by
  unfold Clk.note
  split
  · rfl
  · simp
theorem clk_tick_len (m : Clk) : m.tick.l.length = m.l.length := by
  unfold Clk.tick
  split
  · rfl
  · simp
namespace KeI
variable {m : KeM} {n : Nat}
theorem more (h : KeI m n) {n' : Nat} (hn : n ≤ n') : KeI m n' := ⟨h.t, h.d, h.k, h.kl, h.e, Nat.le_trans h.eg hn, Nat.le_trans h.cn hn⟩
theorem event (h : KeI m n) (hn : n + 1 ≤ 4611686018427387904) (e : EvM) : KeI (m.event e) (n + 1) := by
  have h1 := h.eg
  obtain ⟨a, b⟩ := ring_put_ok h.e (by omega) { e with clock := m.ck.now }
  exact ⟨h.t, h.d, h.k, h.kl, a, Nat.le_trans b (by omega), Nat.le_succ_of_le h.cn⟩
theorem tickE (h : KeI m n) (hn : n + 1 ≤ 4611686018427387904) : KeI m.tickE (n + 1) :=
  event (m := { m with ck := m.ck.tick }) ⟨h.t, h.d, h.k.tick, (clk_tick_len _).trans h.kl, h.e, h.eg, h.cn⟩ hn evTick
theorem took (h : KeI m n) (hn : n + 1 ≤ 4611686018427387904) {i : Nat} (hE : m.dp.releaseE m.tk i = 0) : KeI (m.took i) (n + 1) := by
  obtain ⟨a, b⟩ := h.d.release hE
  have h1 := h.eg
  have h2 := h.cn
  obtain ⟨c, d⟩ := ring_put_ok h.e (by omega) { evRelease i m.dp.count with clock := (m.ck.note i).now }
  exact ⟨h.t, a, h.k.note i, (clk_note_len _ _).trans h.kl, c, Nat.le_trans d (by omega), by show (m.dp.release m.tk i).count ≤ n + 1; omega⟩
theorem due (h : KeI m n) (hn : n + 1 ≤ 4611686018427387904) (i : Nat) : KeI (m.due i) (n + 1) := by
  unfold KeM.due
  split
  · rename_i hE; exact h.took hn hE
  · exact h.event hn _
theorem release (h : KeI m n) (hn : n + 1 ≤ 4611686018427387904) (i : Int) : KeI (m.release i) (n + 1) := by
  unfold KeM.release
  split
  · rename_i hE
    unfold KeM.releaseE at hE
    split at hE
    · exact h.took hn hE
    · rename_i h1; exact absurd hE h1
  · exact h.more (Nat.le_succ _)
theorem step (h : KeI m n) (hn : n + 3 ≤ 4611686018427387904) : KeI m.step.2 (n + 3) := by
  obtain ⟨a, b⟩ := h.d.step h.t
  have h1 : KeI ⟨m.tk, (m.dp.step m.tk).2, m.ck, m.ev⟩ n := ⟨h.t, a, h.k, h.kl, h.e, h.eg, by show (m.dp.step m.tk).2.count ≤ n; rw [b]; exact h.cn⟩
  unfold KeM.step
  dsimp only
  have h2 : KeI (if (m.dp.step m.tk).1.started = true then KeM.event ⟨m.tk, (m.dp.step m.tk).2, m.ck, m.ev⟩ (evStart (m.dp.step m.tk).1.start.task (m.dp.step m.tk).1.start.job) else ⟨m.tk, (m.dp.step m.tk).2, m.ck, m.ev⟩) (n + 1) := by
    split
    · exact h1.event (by omega) _
    · exact h1.more (Nat.le_succ _)
  split
  · exact (h2.event (by omega) _).more (by omega)
  · split
    · exact (h2.event (by omega) _).event (by omega) _
    · exact (h2.event (by omega) _).more (by omega)
theorem register (h : KeI m n) (hn : n + 1 ≤ 4611686018427387904) (x : TaskM) : KeI (m.register x) (n + 1) := by
  unfold KeM.register
  split
  · rename_i hE
    have hc := checkE_zero hE
    obtain ⟨h1, h2, h3, h4, h5, h6, h7, h8⟩ := checkTk_all hc
    refine event (m := ⟨m.tk.added x, m.dp, m.ck.add x.p x.f x.g, m.ev⟩) ⟨h.t.added hc, h.d.added x, h.k.add _ _ _, ?_, h.e, h.eg, h.cn⟩ hn _
    show (m.ck.add x.p x.f x.g).l.length = (m.tk.rows ++ [_]).length
    have hl := h.kl
    unfold Clk.add Clk.full
    rw [if_neg (by simp; omega), if_pos h5, List.length_append, List.length_append, hl]
    rfl
  · exact h.more (Nat.le_succ _)
theorem new {words : Int} {units : List Int} (hc : newTk words units = 0) (hu : newUn units = 0) : KeI (KeM.new words units) 0 := by
  refine ⟨TkI.new hc, ⟨CoI.new hc hu, WqM.Inv.empty _, fun k l x hk hx => ?_, fun j => ?_⟩, Clk.Ok.new, rfl, ⟨by simp [KeM.new], by simp [KeM.new], by simp [KeM.new], by simp [KeM.new]⟩, Nat.le_refl _, Nat.le_refl _⟩
  · have hk2 : (List.replicate 32 ([] : List WaitM))[k]? = some l := hk
    rw [List.getElem?_replicate] at hk2
    split at hk2
    · injection hk2 with hk2
      subst hk2
      cases hx
    · cases hk2
  · have : jobQ (KeM.new words units).dp.wq.qs j = 0 := jobQ_zero fun k l x hk hx => by
      have hk2 : (List.replicate 32 ([] : List WaitM))[k]? = some l := hk
      rw [List.getElem?_replicate] at hk2
      split at hk2
      · injection hk2 with hk2
        subst hk2
        cases hx
      · cases hk2
    rw [this]
    exact Nat.zero_le _
theorem keR (h : KeI m n) (hn : n ≤ 4611686018427387904) : KeR m := ⟨h.t.t, h.d.q.ok, by have := h.cn; omega, h.k, h.e, h.kl⟩
theorem keC (h : KeI m n) : KeC m := ⟨h.t.t, h.d.c.b.u, h.d.c.b.uu⟩
theorem dpS (h : KeI m n) : DpS m.tk m.dp := h.d.dpS h.t
end KeI
end Go.Proofs.YtogcikilphakmaaGreatDoor
