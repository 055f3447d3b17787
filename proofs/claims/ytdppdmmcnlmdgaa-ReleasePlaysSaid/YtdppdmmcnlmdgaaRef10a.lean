/-
  The reference of chapter 10 over the separation logic: gap, Pattern, due; its clock in memory; Ready, Note, Last, Next.
-/
import Derived.Test.YtdppdmmcnlmdgaaRel7
import Derived.Deep.RegionHeld3
namespace Go.Proofs.Ytdppdmmcnlmdgaa
open Go.RowKit Spl

theorem infoRow : (Try.prog.info? 78).map (fun i => (i.zero.map Value.cells, i.size, i.bytes)) = some (some #[.string ⟨#[]⟩, .int .i64 0, .int .i64 0, .slice none 0 0, .string ⟨#[]⟩, .int .i64 0, .int .i64 0, .int .i64 0, .int .i64 0, .int .i64 0], 10, 112) := by kernel_rfl

/-- A row of the reference's clock. -/
structure RowR where
  t : TaskR
  since : Int
  last : Int
def RowR.cells (r : RowR) : List Value := r.t.cells ++ [.int .i64 r.since, .int .i64 r.last]
structure RClk where
  t : Int
  l : List RowR
def rowsV (l : List RowR) : List Value := l.flatMap RowR.cells
theorem rowsV_len (l : List RowR) : (rowsV l).length = l.length * 10 := by
  induction l with
  | nil => rfl
  | cons r l ih => simp only [rowsV, List.flatMap_cons, List.length_append, List.length_cons] at *; rw [ih]; simp [RowR.cells, TaskR.cells]; omega
theorem rowsV_at {l : List RowR} : ∀ {k : Nat} {r : RowR} (_ : l[k]? = some r) {j : Nat} {u : Value} (_ : r.cells[j]? = some u), (rowsV l)[k * 10 + j]? = some u := by
  induction l with
  | nil => intro k r h; simp at h
  | cons x l ih =>
    intro k r h j u hj
    have hx : x.cells.length = 10 := by simp [RowR.cells, TaskR.cells]
    simp only [rowsV, List.flatMap_cons]
    cases k with
    | zero =>
      simp at h; subst h
      rw [List.getElem?_append_left (by have := lt_of_get? hj; omega)]
      simpa using hj
    | succ k =>
      rw [List.getElem?_append_right (by omega), hx]
      have e : (k + 1) * 10 + j - 10 = k * 10 + j := by omega
      rw [e]
      exact ih (by simpa using h) hj
theorem rowsV_set {l : List RowR} : ∀ {k : Nat} {r : RowR} (_ : l[k]? = some r) (x : Int), (rowsV l).set (k * 10 + 9) (.int .i64 x) = rowsV (l.set k { r with last := x }) := by
  induction l with
  | nil => intro k r h; simp at h
  | cons y l ih =>
    intro k r h x
    have hy : y.cells.length = 10 := by simp [RowR.cells, TaskR.cells]
    cases k with
    | zero =>
      simp at h; subst h
      simp only [rowsV, List.flatMap_cons, List.set_cons_zero]
      rw [List.set_append, if_pos (by omega)]
      rfl
    | succ k =>
      simp only [rowsV, List.flatMap_cons, List.set_cons_succ]
      rw [List.set_append, if_neg (by omega), hy]
      have e : (k + 1) * 10 + 9 - 10 = k * 10 + 9 := by omega
      rw [e]
      have := ih (k := k) (r := r) (by simpa using h) x
      simp only [rowsV] at this
      rw [this]
theorem rowsV_snoc (l : List RowR) (r : RowR) : rowsV (l ++ [r]) = rowsV l ++ r.cells := by simp [rowsV]

/-- The reference's clock at block c. -/
def RClock (c : Nat) (m : RClk) : Pr := ex fun v : Value => all [cel c 45 #[.int .i64 m.t, v], Slc 78 10 v m.l.length (rowsV m.l)]
section
variable {w0 w : World} {R : List Pr} {c : Nat} {m : RClk}
theorem RClock.opened (H : Hd w0 (RClock c m :: R) w) : ∃ v, Hd w0 (cel c 45 #[.int .i64 m.t, v] :: Slc 78 10 v m.l.length (rowsV m.l) :: R) w := by
  obtain ⟨v, H⟩ := H.out
  exact ⟨v, H.flat⟩
theorem RClock.shut {v : Value} (H : Hd w0 (cel c 45 #[.int .i64 m.t, v] :: Slc 78 10 v m.l.length (rowsV m.l) :: R) w) : Hd w0 (RClock c m :: R) w :=
  Hd.into v (Hd.pack (L := [_, _]) H)

/-- What the reference's clock keeps. -/
structure RowR.Ok (now : Int) (r : RowR) : Prop where
  p0 : 0 ≤ r.t.p
  p1 : r.t.p ≤ 1048576
  f0 : 0 ≤ r.t.f
  f1 : r.t.f ≤ 1048576
  g0 : 0 ≤ r.t.g
  g1 : r.t.g ≤ 1048576
  s0 : 0 ≤ r.since
  s1 : r.since ≤ now
  l0 : -1 ≤ r.last
  l1 : r.last ≤ now
structure RClk.Ok (m : RClk) : Prop where
  n0 : 0 ≤ m.t
  n1 : m.t ≤ 1099511627776
  len : m.l.length ≤ 64
  row : ∀ r ∈ m.l, r.Ok m.t

theorem refGap (n : Int) : Calls Try.prog 39 #[.int .i64 n] w fun e w' => e = .returned (.bool (tOk n)) ∧ w = w' := by
  by_cases h : 0 ≤ n
  · have e : tOk n = decide (n ≤ 1048576) := by simp [tOk, h]
    rw [e]
    go_enter Try.func39, Try.ntmps39
    go_wp2
    go_ret
    exact ⟨rfl, rfl⟩
  · have e : tOk n = false := by simp [tOk, h]
    rw [e]
    go_enter Try.func39, Try.ntmps39
    go_wp2
    go_ret
    exact ⟨rfl, rfl⟩

set_option maxHeartbeats 800000 in
theorem refPattern (H : Hd w0 R w) (nm lv fr nd cd : Value) (p f g : Int) :
    Calls Try.prog 32 #[.agg #[nm, lv, fr, nd, cd, .int .i64 p, .int .i64 f, .int .i64 g]] w fun e w' => e = .returned (.bool (timesOk p f g)) ∧ Hd w0 R w' := by
  have HA := (H.alloc (.cells #[nm, lv, fr, nd, cd, .int .i64 p, .int .i64 f, .int .i64 g] 29)).tail
  have cp := fun w => refGap (w := w) p
  have cf := fun w => refGap (w := w) f
  have cg := fun w => refGap (w := w) g
  cases hp : tOk p with
  | false =>
    have e : timesOk p f g = false := by simp [timesOk, hp]
    rw [e]; simp only [hp] at cp; clear hp e
    go_enter Try.func32, Try.ntmps32
    go_wp2_with fail
    refine (cp _).mono ?_
    rintro e v ⟨rfl, rfl⟩
    go_wp2_with fail
    go_ret
    exact ⟨rfl, HA⟩
  | true =>
    have hp' := tOk_iff.1 hp
    cases hf : tOk f with
    | false =>
      have e : timesOk p f g = false := by simp [timesOk, hf]
      rw [e]; simp only [hp] at cp; simp only [hf] at cf; clear hp hf e
      go_enter Try.func32, Try.ntmps32
      go_wp2_with fail
      refine (cp _).mono ?_
      rintro e v ⟨rfl, rfl⟩
      go_wp2_with fail
      refine (cf _).mono ?_
      rintro e v ⟨rfl, rfl⟩
      go_wp2_with fail
      go_ret
      exact ⟨rfl, HA⟩
    | true =>
      have hf' := tOk_iff.1 hf
      cases hg : tOk g with
      | false =>
        have e : timesOk p f g = false := by simp [timesOk, hg]
        rw [e]; simp only [hp] at cp; simp only [hf] at cf; simp only [hg] at cg; clear hp hf hg e
        go_enter Try.func32, Try.ntmps32
        go_wp2_with fail
        refine (cp _).mono ?_
        rintro e v ⟨rfl, rfl⟩
        go_wp2_with fail
        refine (cf _).mono ?_
        rintro e v ⟨rfl, rfl⟩
        go_wp2_with fail
        refine (cg _).mono ?_
        rintro e v ⟨rfl, rfl⟩
        go_wp2_with fail
        go_ret
        exact ⟨rfl, HA⟩
      | true =>
        have hg' := tOk_iff.1 hg
        have hv := times_last hp'.1 hp'.2 hf'.1 hf'.2 hg'.1 hg'.2
        simp only [hp] at cp; simp only [hf] at cf; simp only [hg] at cg; clear hp hf hg
        by_cases a1 : 0 < p
        · by_cases a2 : 0 < g
          · have e : timesOk p f g = false := by rw [hv]; have : ¬ p = 0 := by omega
                                                 have : ¬ g = 0 := by omega
                                                 simp [*]
            rw [e]; clear e hv
            go_enter Try.func32, Try.ntmps32
            go_wp2_with fail
            refine (cp _).mono ?_
            rintro e v ⟨rfl, rfl⟩
            go_wp2_with fail
            refine (cf _).mono ?_
            rintro e v ⟨rfl, rfl⟩
            go_wp2_with fail
            refine (cg _).mono ?_
            rintro e v ⟨rfl, rfl⟩
            go_wp2_with fail
            go_ret
            exact ⟨rfl, HA⟩
          · obtain rfl : g = 0 := by omega
            have e : timesOk p f 0 = decide (0 < f) := by rw [hv]; simp [a1]
            rw [e]; clear e hv
            go_enter Try.func32, Try.ntmps32
            go_wp2_with fail
            refine (cp _).mono ?_
            rintro e v ⟨rfl, rfl⟩
            go_wp2_with fail
            refine (cf _).mono ?_
            rintro e v ⟨rfl, rfl⟩
            go_wp2_with fail
            refine (cg _).mono ?_
            rintro e v ⟨rfl, rfl⟩
            go_wp2_with fail
            go_ret
            exact ⟨by simp, HA⟩
        · obtain rfl : p = 0 := by omega
          have e : timesOk 0 f g = !decide (0 < f) := by rw [hv]; simp
          rw [e]; clear e hv
          go_enter Try.func32, Try.ntmps32
          go_wp2_with fail
          refine (cp _).mono ?_
          rintro e v ⟨rfl, rfl⟩
          go_wp2_with fail
          refine (cf _).mono ?_
          rintro e v ⟨rfl, rfl⟩
          go_wp2_with fail
          refine (cg _).mono ?_
          rintro e v ⟨rfl, rfl⟩
          go_wp2_with fail
          go_ret
          exact ⟨by simp, HA⟩

/-- Is a row due at t? -/
def RowR.due (r : RowR) (t : Int) : Bool := decide (0 < r.t.p) && (decide (0 ≤ t - r.since - r.t.f) && decide ((t - r.since - r.t.f) % r.t.p = 0))

theorem refDue (H : Hd w0 R w) (r : RowR) (t now : Int) (hr : r.Ok now) (hn : now ≤ 1099511627776) (h0 : 0 ≤ t) (h1 : t ≤ 1099511627776) :
    Calls Try.prog 33 #[.agg r.cells.toArray, .int .i64 t] w fun e w' => e = .returned (.bool (r.due t)) ∧ Hd w0 R w' := by
  have HA := (H.alloc (.cells r.cells.toArray 78)).tail
  have q1 := hr.p0; have q2 := hr.p1; have q3 := hr.f0; have q4 := hr.f1; have q5 := hr.s0; have q6 := hr.s1
  simp only [RowR.cells, TaskR.cells, List.cons_append, List.nil_append] at HA ⊢
  clear hr
  by_cases a1 : 0 < r.t.p
  · by_cases a2 : 0 ≤ t - r.since - r.t.f
    · have e : r.due t = decide ((t - r.since - r.t.f) % r.t.p = 0) := by unfold RowR.due; rw [decide_eq_true a1, decide_eq_true a2]; rfl
      rw [e]; clear e
      have a3 := Int.emod_nonneg (t - r.since - r.t.f) (b := r.t.p) (by omega)
      go_enter Try.func33, Try.ntmps33
      go_wp2
      go_ret
      exact ⟨by first | rfl | simp, HA⟩
    · have e : r.due t = false := by unfold RowR.due; rw [decide_eq_false a2]; simp
      rw [e]; clear e
      go_enter Try.func33, Try.ntmps33
      go_wp2
      go_ret
      exact ⟨rfl, HA⟩
  · have e : r.due t = false := by simp [RowR.due, a1]
    rw [e]; clear e
    go_enter Try.func33, Try.ntmps33
    go_wp2
    go_ret
    exact ⟨rfl, HA⟩
end
end Go.Proofs.Ytdppdmmcnlmdgaa
