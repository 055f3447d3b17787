/-
  Merged texts of one proof: InvK, KeT, InvE.
-/
import Derived.Test.YtogcikilphakmaaGreatDoorG40
import Derived.Test.YtogcikilphakmaaGreatDoorG41
import Derived.Test.YtogcikilphakmaaGreatDoorG45
import Derived.Test.YtogcikilphakmaaGreatDoorG47
import Derived.Test.YtogcikilphakmaaGreatDoorG48
import Derived.Test.YtogcikilphakmaaGreatDoorG49

/-
  The core's plain law: what every core keeps, through each operation. No program in sight.
-/
namespace Go.Proofs.YtogcikilphakmaaGreatDoor
open Go.RowKit Spl

def frOf (tk : TkM) (j : StM) : Nat := (tk.rows[j.task]?.map (·.t.fr.toNat)).getD 0
structure CoB (tk : TkM) (ar : ArM) (un : UnM) (ce : List Int) : Prop where
  a : ar.Ok
  an : (ar.n : Int) = tk.words
  u : un.Inv
  uu : un.units = tk.units
  cl : ce.length = locksAll un.jobs
structure JobI (tk : TkM) (n : Nat) (j : StM) : Prop where
  j0 : 0 ≤ j.job
  j1 : j.job < n
  r : ∃ r, tk.rows[j.task]? = some r ∧ r.t.lv = j.level ∧ r.steps = j.steps
  p : j.pos < j.steps.length
structure CoI (tk : TkM) (m : CoM) (n : Nat) : Prop where
  b : CoB tk m.ar m.un m.ce
  j : ∀ j ∈ m.jobs, JobI tk n j
  rise : m.jobs.Pairwise fun x y => x.level < y.level
  fr : m.ar.fr.map FrM.size = m.jobs.map (frOf tk)
theorem push_same (m : ArM) (v : Int) : (m.push v).fr.map FrM.size = m.fr.map FrM.size ∧ (m.push v).n = m.n := by
  unfold ArM.push
  rcases nil_or_snoc m.fr with h | ⟨a, f, h⟩
  · rw [h]; exact ⟨by simp [h], rfl⟩
  · rw [h]
    simp only [List.getLast?_append, List.getLast?_singleton, Option.some_or, List.dropLast_concat]
    split
    · exact ⟨by rw [h], rfl⟩
    · exact ⟨by simp, rfl⟩
theorem pop_same (m : ArM) : m.pop.fr.map FrM.size = m.fr.map FrM.size ∧ m.pop.n = m.n := by
  unfold ArM.pop
  rcases nil_or_snoc m.fr with h | ⟨a, f, h⟩
  · rw [h]; exact ⟨by simp [h], rfl⟩
  · rw [h]
    simp only [List.getLast?_append, List.getLast?_singleton, Option.some_or, List.dropLast_concat]
    split
    · exact ⟨by rw [h], rfl⟩
    · exact ⟨by simp, rfl⟩
theorem CoB.push {tk : TkM} {ar : ArM} {un : UnM} {ce : List Int} (h : CoB tk ar un ce) (v : Int) : CoB tk (ar.push v) un ce := ⟨h.a.push v, by rw [(push_same ar v).2]; exact h.an, h.u, h.uu, h.cl⟩
theorem CoB.pop {tk : TkM} {ar : ArM} {un : UnM} {ce : List Int} (h : CoB tk ar un ce) : CoB tk ar.pop un ce := ⟨h.a.pop, by rw [(pop_same ar).2]; exact h.an, h.u, h.uu, h.cl⟩
theorem CoB.stored {tk : TkM} {ar : ArM} {un : UnM} {ce : List Int} (h : CoB tk ar un ce) (r : Nat) (v : Int) : CoB tk ar (un.stored r v) ce := ⟨h.a, h.an, h.u.stored r v, h.uu, h.cl⟩
/-- An operation keeps the parts; the jobs and the frames' sizes stay. -/
theorem actM_keeps {tk : TkM} {m : CoM} (h : CoB tk m.ar m.un m.ce) (j : StM) (o : OpM) :
    CoB tk (actM tk m j o).2.ar (actM tk m j o).2.un (actM tk m j o).2.ce ∧ (actM tk m j o).2.jobs = m.jobs ∧ (actM tk m j o).2.ar.fr.map FrM.size = m.ar.fr.map FrM.size := by
  unfold actM
  by_cases h1 : o.kind = 1
  · rw [if_pos h1]
    split
    · rename_i hE
      obtain ⟨r, hr⟩ : ∃ r : Nat, o.res = r := ⟨o.res.toNat, by have := lockE_pos hE; omega⟩
      rw [hr] at hE ⊢
      rw [Int.toNat_natCast]
      have h2 := UnM.locked_all h.u j.job r o.n
      exact ⟨⟨h.a, h.an, h.u.locked hE, h2.2.trans h.uu, by dsimp only; rw [List.length_append, List.length_singleton, h2.1, h.cl]⟩, rfl, rfl⟩
    · exact ⟨h, rfl, rfl⟩
  · rw [if_neg h1]
    by_cases h2 : o.kind = 2
    · rw [if_pos h2]
      split
      · rename_i hE
        have h3 := UnM.popped_all h.u j.job
        have h4 := UnM.unlockE_lock hE
        rw [if_neg (by omega)] at h3
        exact ⟨⟨h.a, h.an, h.u.popped j.job, h3.2.2.trans h.uu, by dsimp only; rw [List.length_dropLast, h3.1, h.cl]⟩, rfl, rfl⟩
      · exact ⟨h, rfl, rfl⟩
    · rw [if_neg h2]
      by_cases h3 : o.kind = 3
      · rw [if_pos h3]
        exact ⟨h.push _, rfl, (push_same _ _).1⟩
      · rw [if_neg h3]
        by_cases h4 : o.kind = 4
        · rw [if_pos h4]
          exact ⟨h.pop, rfl, (pop_same _).1⟩
        · rw [if_neg h4]
          by_cases h6 : o.kind = 6
          · rw [if_pos h6]
            split
            · exact ⟨h.push _, rfl, (push_same _ _).1⟩
            · exact ⟨h, rfl, rfl⟩
          · rw [if_neg h6]
            by_cases h7 : o.kind = 7
            · rw [if_pos h7]
              split
              · split
                · exact ⟨h.pop.stored _ _, rfl, (pop_same _).1⟩
                · exact ⟨h.pop, rfl, (pop_same _).1⟩
              · exact ⟨h, rfl, rfl⟩
            · rw [if_neg h7]
              by_cases h8 : o.kind = 8
              · rw [if_pos h8]
                split
                · exact ⟨h, rfl, rfl⟩
                · exact ⟨(h.pop.pop).push _, rfl, ((push_same _ _).1.trans (pop_same _).1).trans (pop_same _).1⟩
              · rw [if_neg h8]
                exact ⟨h, rfl, rfl⟩
theorem rising_snoc {l : List StM} {j : StM} : (l ++ [j]).Pairwise (fun x y => x.level < y.level) ↔ l.Pairwise (fun x y => x.level < y.level) ∧ ∀ x ∈ l, x.level < j.level := by
  rw [List.pairwise_append]
  simp
theorem CoI.levels {tk : TkM} {m : CoM} {n : Nat} (ht : tk.Ok) (h : CoI tk m n) : ∀ j ∈ m.jobs, ((1 : Nat) : Int) ≤ j.level ∧ j.level < ((33 : Nat) : Int) := by
  intro j hj
  obtain ⟨r, hr, e, _⟩ := (h.j j hj).r
  have := ht.lv r (List.mem_of_getElem? hr)
  omega
theorem CoI.few {tk : TkM} {m : CoM} {n : Nat} (ht : tk.Ok) (h : CoI tk m n) : m.jobs.length ≤ 32 ∧ m.ar.fr.length = m.jobs.length := by
  have h1 := rising_len h.rise (h.levels ht) (by omega)
  have h2 := congrArg List.length h.fr
  rw [List.length_map, List.length_map] at h2
  exact ⟨by omega, h2⟩
theorem cast_sum {α : Type} (f : α → Nat) : ∀ l : List α, (((l.map f).sum : Nat) : Int) = (l.map fun x => (f x : Int)).sum
  | [] => rfl
  | x :: l => by
    have := cast_sum f l
    simp only [List.map_cons, List.sum_cons]
    push_cast
    omega
theorem frOf_row {tk : TkM} (ht : tk.Ok) {j : StM} {r : RowM} (hr : tk.rows[j.task]? = some r) : (frOf tk j : Int) = r.t.fr := by
  unfold frOf
  rw [hr]
  have := ht.fr r (List.mem_of_getElem? hr)
  simp only [Option.map_some, Option.getD_some]
  omega
/-- A frame fits for a task of a higher level than all jobs'. -/
theorem CoI.room {tk : TkM} {m : CoM} {n : Nat} (ht : tk.Ok) (hb : boundM tk.rows ≤ tk.words) (h : CoI tk m n) {i : Nat} {r : RowM} (hr : tk.rows[i]? = some r) (hl : ∀ x ∈ m.jobs, x.level < r.t.lv) : m.ar.openE r.t.fr = 0 := by
  have hrow := List.mem_of_getElem? hr
  have h1 := ht.lv r hrow
  have h2 := ht.fr r hrow
  have h3 := frames_bound ht.fr (f := fun j => (frOf tk j : Int)) (l := m.jobs ++ [⟨0, i, r.t.lv, 0, r.steps⟩]) (a := 0) (k := 33) (rising_snoc.2 ⟨h.rise, hl⟩) (fun j hj => by
    rcases List.mem_append.1 hj with hj | hj
    · obtain ⟨r', hr', e, _⟩ := (h.j j hj).r
      have h4 := h.levels ht j hj
      have h5 := fr_le_largest (List.mem_of_getElem? hr')
      rw [e] at h5
      have h6 := frOf_row ht hr'
      exact ⟨by omega, by omega, by omega⟩
    · rw [List.mem_singleton] at hj
      subst hj
      have h5 := fr_le_largest hrow
      have h6 := frOf_row ht (j := ⟨0, i, r.t.lv, 0, r.steps⟩) hr
      exact ⟨by dsimp only; omega, by dsimp only; omega, by dsimp only; omega⟩) (by omega)
  rw [List.map_append, List.sum_append] at h3
  have h6 := frOf_row ht (j := ⟨0, i, r.t.lv, 0, r.steps⟩) hr
  simp only [List.map_cons, List.map_nil, List.sum_cons, List.sum_nil] at h3
  have h7 : (m.ar.used : Int) = (m.jobs.map fun j => (frOf tk j : Int)).sum := by
    rw [← cast_sum, ← h.fr]; rfl
  have h8 : boundTo tk.rows 0 = 0 := by simp [boundTo]
  have h9 := h.b.an
  unfold boundM at hb
  unfold ArM.openE
  rw [if_neg (by omega), if_neg (by omega)]
theorem CoI.begun {tk : TkM} {m : CoM} {n : Nat} (ht : tk.Ok) (hst : ∀ r ∈ tk.rows, StepsLaw r.steps) (hb : boundM tk.rows ≤ tk.words) (h : CoI tk m n) {i : Nat} {r : RowM} (hr : tk.rows[i]? = some r) (hl : ∀ x ∈ m.jobs, x.level < r.t.lv) {job : Int} (j0 : 0 ≤ job) (j1 : job < n) :
    CoI tk (m.begun job i r) n := by
  have h0 := h.room ht hb hr hl
  have h1 := h.few ht
  have h2 : (m.ar.openF r.t.fr).fr = m.ar.fr ++ [⟨r.t.fr.toNat, []⟩] ∧ (m.ar.openF r.t.fr).n = m.ar.n := by unfold ArM.openF; rw [if_pos h0]; exact ⟨rfl, rfl⟩
  refine ⟨⟨h.b.a.openF _ (by omega), by show ((m.ar.openF r.t.fr).n : Int) = _; rw [h2.2]; exact h.b.an, h.b.u, h.b.uu, h.b.cl⟩, fun j hj => ?_, rising_snoc.2 ⟨h.rise, hl⟩, ?_⟩
  · rcases List.mem_append.1 hj with hj | hj
    · exact h.j j hj
    · rw [List.mem_singleton] at hj
      subst hj
      exact ⟨j0, j1, ⟨r, hr, rfl, rfl⟩, (hst r (List.mem_of_getElem? hr)).ne⟩
  · show (m.ar.openF r.t.fr).fr.map FrM.size = (m.jobs ++ [_]).map (frOf tk)
    rw [h2.1, List.map_append, List.map_append, h.fr]
    congr 1
    simp only [List.map_cons, List.map_nil]
    unfold frOf
    rw [hr]
    rfl
theorem CoI.stepOk {tk : TkM} {m : CoM} {n : Nat} (ht : tk.Ok) (hst : ∀ r ∈ tk.rows, StepsLaw r.steps) (h : CoI tk m n) : StepOk tk m := by
  intro j hj
  have hmem := List.mem_of_getLast? hj
  have hJ := h.j j hmem
  obtain ⟨r, hr, e1, e2⟩ := hJ.r
  have hs := hst r (List.mem_of_getElem? hr)
  have hlen := ht.st r (List.mem_of_getElem? hr)
  rw [e2] at hs hlen
  have hp := hJ.p
  obtain ⟨o, ho⟩ : ∃ o, j.steps[j.pos]? = some o := ⟨j.steps[j.pos], List.getElem?_eq_getElem hp⟩
  obtain ⟨k1, k2, k3⟩ := hs.k o (List.mem_of_getElem? ho)
  have hf := h.few ht
  have htop := h.b.u.locksTop
  have hcl := h.b.cl
  refine ⟨o, ho, k1, by omega, ⟨ht, h.b.a, h.b.u, by omega, fun h0 => ?_, ⟨r, hr⟩, ⟨k2, k3⟩, fun hE h0 => ?_, ?_⟩⟩
  · have h3 := hf.2
    rw [h0] at h3
    have : m.jobs = [] := List.eq_nil_of_length_eq_zero h3.symm
    rw [this] at hmem
    cases hmem
  · have h4 := UnM.unlockE_lock hE
    have h5 := UnM.locksN_le h.b.u j.job
    rw [h0] at hcl
    simp at hcl
    omega
  · have h5 := UnM.locksN_le h.b.u j.job
    omega
/-- A step keeps the core. -/
theorem CoI.step {tk : TkM} {m m' : CoM} {n : Nat} {d : DoneM} (_ht : tk.Ok) (hst : ∀ r ∈ tk.rows, StepsLaw r.steps) (h : CoI tk m n) (hs : m.step tk = some (d, m')) : CoI tk m' n ∧ (∀ k, m'.jobs.countP (fun x => x.job == k) ≤ m.jobs.countP (fun x => x.job == k)) := by
  unfold CoM.step at hs
  rcases nil_or_snoc m.jobs with h0 | ⟨a, j, h0⟩
  · rw [h0] at hs; simp at hs
  · have hlast : m.jobs.getLast? = some j := by rw [h0]; simp
    have hdrop : m.jobs.dropLast = a := by rw [h0]; simp
    have hJ := h.j j (by rw [h0]; simp)
    have hJa : ∀ x ∈ a, JobI tk n x := fun x hx => h.j x (by rw [h0]; exact List.mem_append_left _ hx)
    have hrise := h.rise
    rw [h0] at hrise
    have hrise2 := rising_snoc.1 hrise
    have hfr := h.fr
    rw [h0, List.map_append] at hfr
    rw [hlast] at hs
    dsimp only at hs
    obtain ⟨r, hr, e1, e2⟩ := hJ.r
    have hsl := hst r (List.mem_of_getElem? hr)
    rw [e2] at hsl
    split at hs
    · cases hs
    · rename_i o ho
      split at hs
      · injection hs with hs
        injection hs with hs1 hs2
        subst hs2
        unfold finishM
        rw [hdrop]
        refine ⟨⟨⟨h.b.a.close, h.b.an, h.b.u.popN _ _, ?_, ?_⟩, hJa, hrise2.1, ?_⟩, fun k => ?_⟩
        · exact ((UnM.popN_all h.b.u j.job _ (Nat.le_refl _)).2.2).trans h.b.uu
        · have h5 := UnM.popN_all h.b.u j.job _ (Nat.le_refl _)
          have h6 := h.b.cl
          dsimp only
          rw [List.length_take]
          omega
        · show m.ar.fr.dropLast.map FrM.size = _
          rw [List.map_dropLast, hfr]
          simp
        · dsimp only; rw [h0, List.countP_append]; omega
      · rename_i h9
        injection hs with hs
        injection hs with hs1 hs2
        subst hs2
        obtain ⟨k1, k2, k3⟩ := actM_keeps (j := j) (o := o) h.b
        have hp1 := hsl.e j.pos o ho h9
        rw [hdrop]
        refine ⟨⟨k1, fun x hx => ?_, rising_snoc.2 ⟨hrise2.1, hrise2.2⟩, ?_⟩, fun k => ?_⟩
        · rcases List.mem_append.1 hx with hx | hx
          · exact hJa x hx
          · rw [List.mem_singleton] at hx
            subst hx
            exact ⟨hJ.j0, hJ.j1, ⟨r, hr, e1, e2⟩, hp1⟩
        · dsimp only
          rw [k3, hfr, List.map_append]
          rfl
        · dsimp only
          rw [h0, List.countP_append, List.countP_append]
          exact Nat.le_refl _
theorem CoI.more {tk : TkM} {m : CoM} {n n' : Nat} (h : CoI tk m n) (hn : n ≤ n') : CoI tk m n' := ⟨h.b, fun j hj => ⟨(h.j j hj).j0, by have := (h.j j hj).j1; omega, (h.j j hj).r, (h.j j hj).p⟩, h.rise, h.fr⟩
theorem CoI.new {words : Int} {units : List Int} (hc : newTk words units = 0) (hu : newUn units = 0) : CoI ⟨words, units, [], []⟩ (CoM.new ⟨words, units, [], []⟩) 0 := by
  have hw : 0 ≤ words ∧ words ≤ 65536 := by
    unfold newTk at hc
    split at hc
    · cases hc
    · omega
  refine ⟨⟨ArM.Ok.new (by dsimp only; omega), ?_, UnM.Inv.new hu, rfl, rfl⟩, fun j hj => (by cases hj), List.Pairwise.nil, rfl⟩
  show ((ArM.new words.toNat).n : Int) = words
  unfold ArM.new
  dsimp only
  omega
/-- Another task changes nothing for the jobs. -/
theorem CoI.added {tk : TkM} {m : CoM} {n : Nat} (h : CoI tk m n) (x : TaskM) : CoI (tk.added x) m n := by
  have hk : ∀ {i : Nat} {r : RowM}, tk.rows[i]? = some r → (tk.added x).rows[i]? = some r := by
    intro i r hr
    show (tk.rows ++ [_])[i]? = _
    rw [List.getElem?_append_left (lt_of_get? hr)]
    exact hr
  refine ⟨⟨h.b.a, h.b.an, h.b.u, h.b.uu, h.b.cl⟩, fun j hj => ?_, h.rise, ?_⟩
  · obtain ⟨r, hr, e⟩ := (h.j j hj).r
    exact ⟨(h.j j hj).j0, (h.j j hj).j1, ⟨r, hk hr, e⟩, (h.j j hj).p⟩
  · rw [h.fr]
    refine List.map_congr_left fun j hj => ?_
    obtain ⟨r, hr, e⟩ := (h.j j hj).r
    unfold frOf
    rw [hr, hk hr]
end Go.Proofs.YtogcikilphakmaaGreatDoor

/-
  kernel.Tick: the model. No program in sight.
-/
namespace Go.Proofs.YtogcikilphakmaaGreatDoor
open Go.RowKit Spl

/-- What a periodic task's release brings: the new job, if there is room. -/
def KeM.gets (m : KeM) (i : Nat) : List WaitM := if m.dp.releaseE m.tk i = 0 then [⟨m.dp.count, i, (m.tk.rows[i]?.map (·.t.lv)).getD 0⟩] else []
def KeM.dues : KeM → List Int → List WaitM × KeM
  | m, [] => ([], m)
  | m, i :: l => (m.gets i.toNat ++ ((m.due i.toNat).dues l).1, ((m.due i.toNat).dues l).2)
/-- The clock goes on by one. -/
def KeM.tickE (m : KeM) : KeM := KeM.event { m with ck := m.ck.tick } evTick
def KeM.tick1 (m : KeM) : List WaitM × KeM := m.tickE.dues m.ck.tickL
def KeM.ticks : Nat → KeM → List WaitM × KeM
  | 0, m => ([], m)
  | n + 1, m => (m.tick1.1 ++ (m.tick1.2.ticks n).1, (m.tick1.2.ticks n).2)
theorem KeM.due_tk (m : KeM) (i : Nat) : (m.due i).tk = m.tk := by unfold KeM.due; split <;> rfl
theorem dueIds_in (now : Int) (l : List Pat) : ∀ k, ∀ x ∈ dueIds now k l, (k : Int) ≤ x ∧ x < (k : Int) + l.length := by
  induction l with
  | nil => intro k x hx; simp [dueIds] at hx
  | cons p ps ih =>
    intro k x hx
    simp only [dueIds] at hx
    rw [List.length_cons]
    push_cast
    split at hx
    · rcases List.mem_cons.1 hx with rfl | hx
      · omega
      · have := ih (k + 1) x hx; push_cast at this; omega
    · have := ih (k + 1) x hx; push_cast at this; omega
theorem tickL_in {m : Clk} {x : Int} (hx : x ∈ m.tickL) : 0 ≤ x ∧ x < m.l.length := by
  unfold Clk.tickL at hx
  split at hx
  · cases hx
  · have := dueIds_in _ _ _ x hx; omega
theorem tickL_len (m : Clk) : m.tickL.length ≤ m.l.length := by
  unfold Clk.tickL
  split
  · simp
  · exact dueIds_length _ _ _
end Go.Proofs.YtogcikilphakmaaGreatDoor

/-
  The kernel's plain law: what every kernel keeps, through every call. No program in sight.
-/
namespace Go.Proofs.YtogcikilphakmaaGreatDoor
open Go.RowKit Spl

def jobQ (qs : List (List WaitM)) (j : Int) : Nat := (qs.map fun l => l.countP (fun x => x.job == j)).sum
theorem jobQ_set {qs : List (List WaitM)} {k : Nat} {l l' : List WaitM} (h : qs[k]? = some l) (j : Int) : jobQ (qs.set k l') j + l.countP (fun x => x.job == j) = jobQ qs j + l'.countP (fun x => x.job == j) := by
  unfold jobQ
  rw [List.map_set]
  exact sum_setN (by rw [List.getElem?_map, h]; rfl)
theorem jobQ_pos {qs : List (List WaitM)} {k : Nat} {l : List WaitM} {x : WaitM} (h : qs[k]? = some l) (hx : x ∈ l) : 1 ≤ jobQ qs x.job := by
  have h1 : l.countP (fun y => y.job == x.job) ≤ jobQ qs x.job := le_sumN (l := qs.map fun l => l.countP (fun y => y.job == x.job)) (k := k) (by rw [List.getElem?_map, h]; rfl)
  have h2 : 0 < l.countP (fun y => y.job == x.job) := List.countP_pos_iff.2 ⟨x, hx, by simp⟩
  omega
theorem jobQ_zero {qs : List (List WaitM)} {j : Int} (h : ∀ (k : Nat) (l : List WaitM) (x : WaitM), qs[k]? = some l → x ∈ l → ¬ x.job = j) : jobQ qs j = 0 := by
  unfold jobQ
  rw [List.sum_eq_zero_iff_forall_eq_nat]
  intro n hn
  obtain ⟨l, hl, rfl⟩ := List.mem_map.1 hn
  obtain ⟨k, hk⟩ := List.getElem?_of_mem hl
  rw [List.countP_eq_zero]
  intro x hx
  simpa using h k l x hk hx
structure DpI (tk : TkM) (m : DpM) : Prop where
  c : CoI tk m.co m.count
  q : m.wq.Inv m.count
  r : ∀ (k : Nat) (l : List WaitM) (x : WaitM), m.wq.qs[k]? = some l → x ∈ l → ∃ r, tk.rows[x.task.toNat]? = some r ∧ r.t.lv = x.level
  d : ∀ j, jobQ m.wq.qs j + m.co.jobs.countP (fun x => x.job == j) ≤ 1
structure KeI (m : KeM) (n : Nat) : Prop where
  t : TkI m.tk
  d : DpI m.tk m.dp
  k : m.ck.Ok
  kl : m.ck.l.length = m.tk.rows.length
  e : m.ev.Ok
  eg : m.ev.gone ≤ n
  cn : m.dp.count ≤ n
theorem place_none {l : List StM} {j : Int} (h : l.countP (fun x => x.job == j) = 0) : placeM l j = -1 := by
  unfold placeM
  have : l.findIdx? (fun x => x.job == j) = none := by
    rw [List.findIdx?_eq_none_iff]
    intro x hx
    have := (List.countP_eq_zero.1 h) x hx
    simpa using this
  rw [this]
theorem may_all {m : DpM} {v : WaitM} (h : m.may = some v) : ∃ (k : Nat) (L : List WaitM), hiQ m.wq.qs m.wq.qs.length = k + 1 ∧ m.wq.qs[k]? = some (v :: L) ∧ topI m.co.ce < v.level ∧ (∀ j, m.co.jobs.getLast? = some j → j.level < v.level) := by
  have hn := may_next h
  unfold WqM.next at hn
  cases hh : hiQ m.wq.qs m.wq.qs.length with
  | zero => rw [hh] at hn; cases hn
  | succ k =>
    obtain ⟨x, L, hL⟩ := hiQ_some hh
    have hnx : m.wq.next = some x := by unfold WqM.next; rw [hh]; dsimp only; rw [hL]; rfl
    rw [may_next h] at hnx
    injection hnx with hnx
    subst hnx
    refine ⟨k, L, rfl, hL, ?_⟩
    unfold DpM.may at h
    rw [may_next h] at h
    dsimp only at h
    split at h
    · cases h
    · rename_i h1
      refine ⟨by omega, fun j hj => ?_⟩
      rw [hj] at h
      dsimp only at h
      split at h
      · cases h
      · omega
theorem DpI.above {tk : TkM} {m : DpM} (h : DpI tk m) {l : Int} (hl : ∀ j, m.co.jobs.getLast? = some j → j.level < l) : ∀ x ∈ m.co.jobs, x.level < l := by
  intro x hx
  rcases nil_or_snoc m.co.jobs with h0 | ⟨a, j, h0⟩
  · rw [h0] at hx; cases hx
  · have h1 := hl j (by rw [h0]; simp)
    have h2 := h.c.rise
    rw [h0] at hx h2
    rcases List.mem_append.1 hx with hx | hx
    · have := (rising_snoc.1 h2).2 x hx; omega
    · rw [List.mem_singleton] at hx; subst hx; exact h1
/-- The next waiting job, if it may start: its place, its row, and that it can start. -/
theorem DpI.next {tk : TkM} {m : DpM} (ht : TkI tk) (h : DpI tk m) {v : WaitM} (hm : m.may = some v) : (0 ≤ v.task ∧ v.task < 64 ∧ 0 ≤ v.job ∧ v.job < m.count) ∧ placeM m.co.jobs v.job = -1 ∧ ∃ r, tk.rows[v.task.toNat]? = some r ∧ r.t.lv = v.level ∧ m.co.ar.openE r.t.fr = 0 ∧ ∀ x ∈ m.co.jobs, x.level < r.t.lv := by
  obtain ⟨k, L, h1, h2, h3, h4⟩ := may_all hm
  have h5 := h.q.e k _ v h2 (by simp)
  obtain ⟨r, hr, hlv⟩ := h.r k _ v h2 (by simp)
  have h6 := h.above h4
  rw [← hlv] at h6
  refine ⟨by omega, place_none ?_, r, hr, hlv, h.c.room ht.t ht.b hr h6, h6⟩
  have := jobQ_pos h2 (x := v) (by simp)
  have := h.d v.job
  omega
theorem DpI.begin {tk : TkM} {m : DpM} (ht : TkI tk) (h : DpI tk m) : DpI tk (m.begin tk).2 ∧ (m.begin tk).2.count = m.count := by
  unfold DpM.begin
  cases hm : m.may with
  | none => exact ⟨h, rfl⟩
  | some v =>
    obtain ⟨hv, hp, r, hr, hlv, ho, hab⟩ := h.next ht hm
    dsimp only
    rw [hr]
    dsimp only
    obtain ⟨k, L, h1, h2, h3, h4⟩ := may_all hm
    have ht0 : m.wq.take.qs = m.wq.qs.set k L := by unfold WqM.take; rw [h1]; dsimp only; rw [h2]; rfl
    refine ⟨⟨h.c.begun ht.t ht.st ht.b hr hab hv.2.2.1 hv.2.2.2, h.q.take, fun k' l x hk' hx => ?_, fun j => ?_⟩, rfl⟩
    · dsimp only at hk'
      rw [ht0] at hk'
      by_cases hkk : k = k'
      · subst hkk
        rw [List.getElem?_set_self (lt_of_get? h2)] at hk'
        injection hk' with hk'
        subst hk'
        exact h.r k _ x h2 (by simp [hx])
      · rw [List.getElem?_set_ne hkk] at hk'
        exact h.r k' l x hk' hx
    · dsimp only
      rw [ht0]
      have h5 := jobQ_set (l' := L) h2 j
      have h6 := h.d j
      rw [List.countP_cons] at h5
      show jobQ _ j + (m.co.jobs ++ [_]).countP _ ≤ 1
      rw [List.countP_append, List.countP_cons, List.countP_nil]
      dsimp only
      omega
theorem DpI.dpS {tk : TkM} {m : DpM} (ht : TkI tk) (h : DpI tk m) : DpS tk m := by
  have h1 := h.c.few ht.t
  have h2 := h.c.b.cl
  have h3 := h.c.b.u.locksTop
  refine ⟨ht.t, h.q.ok, h.c.b.a, by omega, by omega, by omega, fun v hv => ?_, (h.begin ht).1.c.stepOk ht.t ht.st⟩
  obtain ⟨a, b, r, c, _, d, _⟩ := h.next ht hv
  exact ⟨a.1, a.2.1, a.2.2.1, b, r, c, d⟩
theorem DpI.step {tk : TkM} {m : DpM} (ht : TkI tk) (h : DpI tk m) : DpI tk (m.step tk).2 ∧ (m.step tk).2.count = m.count := by
  obtain ⟨h1, h2⟩ := h.begin ht
  unfold DpM.step
  cases hs : (m.begin tk).2.co.step tk with
  | none => exact ⟨h1, h2⟩
  | some y =>
    obtain ⟨d, co⟩ := y
    obtain ⟨h3, h4⟩ := h1.c.step ht.t ht.st hs
    exact ⟨⟨h3, h1.q, h1.r, fun j => by have := h1.d j; have := h4 j; dsimp only; omega⟩, h2⟩
theorem DpI.release {tk : TkM} {m : DpM} (h : DpI tk m) {i : Nat} (hE : m.releaseE tk i = 0) : DpI tk (m.release tk i) ∧ (m.release tk i).count = m.count + 1 := by
  unfold DpM.releaseE at hE
  unfold DpM.release
  cases hr : tk.rows[i]? with
  | none => rw [hr] at hE; cases hE
  | some r =>
    rw [hr] at hE
    dsimp only at hE ⊢
    rw [if_pos hE]
    refine ⟨?_, rfl⟩
    have hE2 := hE
    unfold WqM.putE at hE2
    split at hE2
    · cases hE2
    · rename_i hb
      obtain ⟨k, hk⟩ : ∃ k : Nat, (r.t.lv - 1).toNat = k := ⟨_, rfl⟩
      have hkl : k < m.wq.qs.length := by rw [h.q.q]; omega
      obtain ⟨L, hL⟩ : ∃ L, m.wq.qs[k]? = some L := ⟨m.wq.qs[k], List.getElem?_eq_getElem hkl⟩
      have hp : (m.wq.put i r.t.lv m.count).qs = m.wq.qs.set k (L ++ [⟨m.count, i, r.t.lv⟩]) := by
        unfold WqM.put; rw [if_pos hE, hk, hL]; rfl
      refine ⟨h.c.more (Nat.le_succ _), h.q.put hE, fun k' l x hk' hx => ?_, fun j => ?_⟩
      · dsimp only at hk'
        rw [hp] at hk'
        by_cases hkk : k = k'
        · subst hkk
          rw [List.getElem?_set_self hkl] at hk'
          injection hk' with hk'
          subst hk'
          rcases List.mem_append.1 hx with hx | hx
          · exact h.r k L x hL hx
          · rw [List.mem_singleton] at hx
            subst hx
            exact ⟨r, by dsimp only; rw [Int.toNat_natCast]; exact hr, rfl⟩
        · rw [List.getElem?_set_ne hkk] at hk'
          exact h.r k' l x hk' hx
      · dsimp only
        rw [hp]
        have h5 := jobQ_set (l' := L ++ [⟨m.count, i, r.t.lv⟩]) hL j
        have h6 := h.d j
        rw [List.countP_append, List.countP_cons, List.countP_nil] at h5
        dsimp only at h5
        by_cases hj : (m.count : Int) = j
        · have h7 : jobQ m.wq.qs j = 0 := jobQ_zero fun k l x hk hx he => by have := h.q.e k l x hk hx; omega
          have h8 : m.co.jobs.countP (fun x => x.job == j) = 0 := by
            rw [List.countP_eq_zero]
            intro x hx
            have := (h.c.j x hx).j1
            simp only [beq_iff_eq]
            omega
          split at h5 <;> omega
        · rw [if_neg (by simpa using hj)] at h5
          omega
theorem DpI.added {tk : TkM} {m : DpM} (h : DpI tk m) (x : TaskM) : DpI (tk.added x) m := by
  refine ⟨h.c.added x, h.q, fun k l y hk hy => ?_, h.d⟩
  obtain ⟨r, hr, e⟩ := h.r k l y hk hy
  refine ⟨r, ?_, e⟩
  show (tk.rows ++ [_])[_]? = _
  rw [List.getElem?_append_left (lt_of_get? hr)]
  exact hr
theorem clk_note_len (m : Clk) (i : Int) : (m.note i).l.length = m.l.length := by
  unfold Clk.note
  split
  · rfl
  · simp
theorem clk_tick_len (m : Clk) : m.tick.l.length = m.l.length := by
  unfold Clk.tick
  split
  · rfl
  · simp
namespace KeI
variable {m : KeM} {n : Nat}
theorem more (h : KeI m n) {n' : Nat} (hn : n ≤ n') : KeI m n' := ⟨h.t, h.d, h.k, h.kl, h.e, Nat.le_trans h.eg hn, Nat.le_trans h.cn hn⟩
theorem event (h : KeI m n) (hn : n + 1 ≤ 4611686018427387904) (e : EvM) : KeI (m.event e) (n + 1) := by
  have h1 := h.eg
  obtain ⟨a, b⟩ := ring_put_ok h.e (by omega) { e with clock := m.ck.now }
  exact ⟨h.t, h.d, h.k, h.kl, a, Nat.le_trans b (by omega), Nat.le_succ_of_le h.cn⟩
theorem tickE (h : KeI m n) (hn : n + 1 ≤ 4611686018427387904) : KeI m.tickE (n + 1) :=
  event (m := { m with ck := m.ck.tick }) ⟨h.t, h.d, h.k.tick, (clk_tick_len _).trans h.kl, h.e, h.eg, h.cn⟩ hn evTick
theorem took (h : KeI m n) (hn : n + 1 ≤ 4611686018427387904) {i : Nat} (hE : m.dp.releaseE m.tk i = 0) : KeI (m.took i) (n + 1) := by
  obtain ⟨a, b⟩ := h.d.release hE
  have h1 := h.eg
  have h2 := h.cn
  obtain ⟨c, d⟩ := ring_put_ok h.e (by omega) { evRelease i m.dp.count with clock := (m.ck.note i).now }
  exact ⟨h.t, a, h.k.note i, (clk_note_len _ _).trans h.kl, c, Nat.le_trans d (by omega), by show (m.dp.release m.tk i).count ≤ n + 1; omega⟩
theorem due (h : KeI m n) (hn : n + 1 ≤ 4611686018427387904) (i : Nat) : KeI (m.due i) (n + 1) := by
  unfold KeM.due
  split
  · rename_i hE; exact h.took hn hE
  · exact h.event hn _
theorem release (h : KeI m n) (hn : n + 1 ≤ 4611686018427387904) (i : Int) : KeI (m.release i) (n + 1) := by
  unfold KeM.release
  split
  · rename_i hE
    unfold KeM.releaseE at hE
    split at hE
    · exact h.took hn hE
    · rename_i h1; exact absurd hE h1
  · exact h.more (Nat.le_succ _)
theorem step (h : KeI m n) (hn : n + 3 ≤ 4611686018427387904) : KeI m.step.2 (n + 3) := by
  obtain ⟨a, b⟩ := h.d.step h.t
  have h1 : KeI ⟨m.tk, (m.dp.step m.tk).2, m.ck, m.ev⟩ n := ⟨h.t, a, h.k, h.kl, h.e, h.eg, by show (m.dp.step m.tk).2.count ≤ n; rw [b]; exact h.cn⟩
  unfold KeM.step
  dsimp only
  have h2 : KeI (if (m.dp.step m.tk).1.started = true then KeM.event ⟨m.tk, (m.dp.step m.tk).2, m.ck, m.ev⟩ (evStart (m.dp.step m.tk).1.start.task (m.dp.step m.tk).1.start.job) else ⟨m.tk, (m.dp.step m.tk).2, m.ck, m.ev⟩) (n + 1) := by
    split
    · exact h1.event (by omega) _
    · exact h1.more (Nat.le_succ _)
  split
  · exact (h2.event (by omega) _).more (by omega)
  · split
    · exact (h2.event (by omega) _).event (by omega) _
    · exact (h2.event (by omega) _).more (by omega)
theorem register (h : KeI m n) (hn : n + 1 ≤ 4611686018427387904) (x : TaskM) : KeI (m.register x) (n + 1) := by
  unfold KeM.register
  split
  · rename_i hE
    have hc := checkE_zero hE
    obtain ⟨h1, h2, h3, h4, h5, h6, h7, h8⟩ := checkTk_all hc
    refine event (m := ⟨m.tk.added x, m.dp, m.ck.add x.p x.f x.g, m.ev⟩) ⟨h.t.added hc, h.d.added x, h.k.add _ _ _, ?_, h.e, h.eg, h.cn⟩ hn _
    show (m.ck.add x.p x.f x.g).l.length = (m.tk.rows ++ [_]).length
    have hl := h.kl
    unfold Clk.add Clk.full
    rw [if_neg (by simp; omega), if_pos h5, List.length_append, List.length_append, hl]
    rfl
  · exact h.more (Nat.le_succ _)
theorem new {words : Int} {units : List Int} (hc : newTk words units = 0) (hu : newUn units = 0) : KeI (KeM.new words units) 0 := by
  refine ⟨TkI.new hc, ⟨CoI.new hc hu, WqM.Inv.empty _, fun k l x hk hx => ?_, fun j => ?_⟩, Clk.Ok.new, rfl, ⟨by simp [KeM.new], by simp [KeM.new], by simp [KeM.new], by simp [KeM.new]⟩, Nat.le_refl _, Nat.le_refl _⟩
  · have hk2 : (List.replicate 32 ([] : List WaitM))[k]? = some l := hk
    rw [List.getElem?_replicate] at hk2
    split at hk2
    · injection hk2 with hk2
      subst hk2
      cases hx
    · cases hk2
  · have : jobQ (KeM.new words units).dp.wq.qs j = 0 := jobQ_zero fun k l x hk hx => by
      have hk2 : (List.replicate 32 ([] : List WaitM))[k]? = some l := hk
      rw [List.getElem?_replicate] at hk2
      split at hk2
      · injection hk2 with hk2
        subst hk2
        cases hx
      · cases hk2
    rw [this]
    exact Nat.zero_le _
theorem keR (h : KeI m n) (hn : n ≤ 4611686018427387904) : KeR m := ⟨h.t.t, h.d.q.ok, by have := h.cn; omega, h.k, h.e, h.kl⟩
theorem keC (h : KeI m n) : KeC m := ⟨h.t.t, h.d.c.b.u, h.d.c.b.uu⟩
theorem dpS (h : KeI m n) : DpS m.tk m.dp := h.d.dpS h.t
end KeI
end Go.Proofs.YtogcikilphakmaaGreatDoor
