/-
  The reference of chapter 10 over the separation logic: its clock's Last, Next, Ready, Note.
-/
import Derived.Test.YtdppdmmcnlmdgaaRef10a
namespace Go.Proofs.Ytdppdmmcnlmdgaa
open Go.RowKit Spl

namespace RClk
def at? (m : RClk) (id : Int) : Option RowR := if 0 ≤ id then m.l[id.toNat]? else none
def lastP (r : RowR) : Int × Bool := if r.last < 0 then (0, false) else (r.last, true)
def last (m : RClk) (id : Int) : Int × Bool := match m.at? id with | none => (0, false) | some r => lastP r
def nextP (t : Int) (r : RowR) : Int × Bool :=
  if r.t.p = 0 then (0, false) else if r.since + r.t.f ≤ t then (r.since + r.t.f + ((t - (r.since + r.t.f)).tdiv r.t.p + 1) * r.t.p, true) else (r.since + r.t.f, true)
def next (m : RClk) (id : Int) : Int × Bool := match m.at? id with | none => (0, false) | some r => nextP m.t r
def readyP (t : Int) (r : RowR) : Int := if 0 < r.t.p then 40 else if 0 < r.t.g ∧ 0 ≤ r.last ∧ t - r.last < r.t.g then 41 else 0
def ready (m : RClk) (id : Int) : Int := match m.at? id with | none => 1 | some r => readyP m.t r
def note (m : RClk) (id : Int) : RClk := match m.at? id with | none => m | some r => ⟨m.t, m.l.set id.toNat { r with last := m.t }⟩
def noteE (m : RClk) (id : Int) : Int := match m.at? id with | none => 1 | some _ => 0

theorem at?_cases (m : RClk) (id : Int) : (m.at? id = none ∧ (id < 0 ∨ m.l.length ≤ id)) ∨ ∃ (i : Nat) (p : RowR), id = i ∧ m.at? id = some p ∧ m.l[i]? = some p := by
  unfold RClk.at?
  by_cases h : 0 ≤ id
  · rw [if_pos h]
    cases e : m.l[id.toNat]? with
    | none => exact .inl ⟨rfl, .inr (by have := List.getElem?_eq_none_iff.1 e; omega)⟩
    | some p => exact .inr ⟨id.toNat, p, by omega, rfl, e⟩
  · rw [if_neg h]
    exact .inl ⟨rfl, .inl (by omega)⟩
end RClk

/-- The cells of a row at a place. -/
structure RowAt (w : World) (g k : Nat) (r : RowR) : Prop where
  a0 : w.cell? ⟨g, k, none⟩ = some (.string r.t.nm)
  a1 : w.cell? ⟨g, k + 1, none⟩ = some (.int .i64 r.t.lv)
  a2 : w.cell? ⟨g, k + 2, none⟩ = some (.int .i64 r.t.fr)
  a3 : w.cell? ⟨g, k + 3, none⟩ = some (.slice r.t.na r.t.nl r.t.nc)
  a4 : w.cell? ⟨g, k + 4, none⟩ = some (.string r.t.cd)
  a5 : w.cell? ⟨g, k + 5, none⟩ = some (.int .i64 r.t.p)
  a6 : w.cell? ⟨g, k + 6, none⟩ = some (.int .i64 r.t.f)
  a7 : w.cell? ⟨g, k + 7, none⟩ = some (.int .i64 r.t.g)
  a8 : w.cell? ⟨g, k + 8, none⟩ = some (.int .i64 r.since)
  a9 : w.cell? ⟨g, k + 9, none⟩ = some (.int .i64 r.last)
section
variable {w0 w : World} {R : List Pr} {c : Nat} {m : RClk}

theorem row_at {g cap n : Nat} {l : List RowR} (H : Hd w0 (SlcC 78 10 g n cap (rowsV l) :: R) w) {i : Nat} {r : RowR} (hi : l[i]? = some r) : RowAt w g (i * 10) r := by
  have g := fun j u (h : r.cells[j]? = some u) => H.slcC_rd (rowsV_at hi h)
  exact ⟨g 0 _ rfl, g 1 _ rfl, g 2 _ rfl, g 3 _ rfl, g 4 _ rfl, g 5 _ rfl, g 6 _ rfl, g 7 _ rfl, g 8 _ rfl, g 9 _ rfl⟩

theorem refLast (H : Hd w0 (RClock c m :: R) w) (hm : m.Ok) (id : Int) :
    Calls Try.prog 34 #[pp c, .int .i64 id] w fun e w' => e = .returned (.tuple #[.int .i64 (m.last id).1, .bool (m.last id).2]) ∧ w = w' := by
  obtain ⟨v, H1⟩ := RClock.opened H
  have hlen := hm.len
  have c1 := H1.rd 1
  unfold pp
  rcases m.at?_cases id with ⟨hn, ho⟩ | ⟨i, p, rfl, hp, hi⟩
  · have hr : m.last id = (0, false) := by simp [RClk.last, hn]
    rw [hr]
    obtain ⟨a, cap, rfl, _, _, _, _⟩ := H1.b2.slc_form
    clear hr hn hm H H1
    rcases ho with ho | ho
    · go_enter Try.func34, Try.ntmps34
      go_wp2
      go_ret2
      exact ⟨rfl, rfl⟩
    · have h0 : ¬ id < 0 := by omega
      go_enter Try.func34, Try.ntmps34
      go_wp2
      go_ret2
      exact ⟨rfl, rfl⟩
  · have hlt := lt_of_get? hi
    obtain ⟨g, cap, rfl, H2⟩ := H1.b2.slc_at (by omega)
    have c9 := (row_at H2 hi).a9
    have hr : m.last i = RClk.lastP p := by simp [RClk.last, hp]
    rw [hr]
    clear hr hp hi hm H H1 H2
    by_cases hh : p.last < 0
    · have e : RClk.lastP p = (0, false) := by simp [RClk.lastP, hh]
      rw [e]; clear e
      go_enter Try.func34, Try.ntmps34
      go_wp2
      go_ret2
      exact ⟨rfl, rfl⟩
    · have e : RClk.lastP p = (p.last, true) := by simp [RClk.lastP, hh]
      rw [e]; clear e
      go_enter Try.func34, Try.ntmps34
      go_wp2
      go_ret2
      exact ⟨rfl, rfl⟩

set_option maxHeartbeats 1600000 in
theorem refNext (H : Hd w0 (RClock c m :: R) w) (hm : m.Ok) (id : Int) :
    Calls Try.prog 35 #[pp c, .int .i64 id] w fun e w' => e = .returned (.tuple #[.int .i64 (m.next id).1, .bool (m.next id).2]) ∧ Hd w0 (RClock c m :: R) w' := by
  obtain ⟨v, H1⟩ := RClock.opened H
  have hlen := hm.len
  have c0 := H1.rd 0
  have c1 := H1.rd 1
  unfold pp
  rcases m.at?_cases id with ⟨hn, ho⟩ | ⟨i, p, rfl, hp, hi⟩
  · have hr : m.next id = (0, false) := by simp [RClk.next, hn]
    rw [hr]
    obtain ⟨a, cap, rfl, _, _, _, _⟩ := H1.b2.slc_form
    clear hr hn hm H1
    rcases ho with ho | ho
    · go_enter Try.func35, Try.ntmps35
      go_wp2
      go_ret2
      exact ⟨rfl, H⟩
    · have h0 : ¬ id < 0 := by omega
      go_enter Try.func35, Try.ntmps35
      go_wp2
      go_ret2
      exact ⟨rfl, H⟩
  · have hlt := lt_of_get? hi
    have hok := hm.row p (List.mem_of_getElem? hi)
    have q1 := hok.p0; have q2 := hok.p1; have q3 := hok.f0; have q4 := hok.f1; have q5 := hok.s0; have q6 := hok.s1
    have n0 := hm.n0; have n1 := hm.n1
    obtain ⟨g, cap, rfl, H2⟩ := H1.b2.slc_at (by omega)
    obtain ⟨a0, a1, a2, a3, a4, a5, a6, a7, a8, a9⟩ := row_at H2 hi
    have HA := (H.alloc (.cells p.cells.toArray 78)).tail
    have d0 := ((H1.alloc (.cells p.cells.toArray 78)).b2).rd 0
    simp only [RowR.cells, TaskR.cells, List.cons_append, List.nil_append] at HA d0
    have hr : m.next i = RClk.nextP m.t p := by simp [RClk.next, hp]
    rw [hr]
    clear hr hp hi hm H1 H2 hok
    by_cases hh : p.t.p = 0
    · have e : RClk.nextP m.t p = (0, false) := by simp [RClk.nextP, hh]
      rw [e]; clear e
      rw [hh] at a5
      go_enter Try.func35, Try.ntmps35
      go_wp2
      go_ret2
      exact ⟨rfl, H⟩
    · have hd : (p.t.p == 0) = false := by simpa using hh
      by_cases h2 : p.since + p.t.f ≤ m.t
      · have e : RClk.nextP m.t p = (p.since + p.t.f + ((m.t - (p.since + p.t.f)).tdiv p.t.p + 1) * p.t.p, true) := by simp [RClk.nextP, hh, h2]
        rw [e]; clear e
        have d1 : (m.t - (p.since + p.t.f)).tdiv p.t.p = (m.t - (p.since + p.t.f)) / p.t.p := Int.tdiv_eq_ediv_of_nonneg (by omega)
        have d2 := Int.ediv_mul_le (m.t - (p.since + p.t.f)) (b := p.t.p) (by omega)
        have d3 : 0 ≤ (m.t - (p.since + p.t.f)) / p.t.p := Int.ediv_nonneg (by omega) (by omega)
        have d4 : (m.t - (p.since + p.t.f)) / p.t.p ≤ m.t - (p.since + p.t.f) := Int.ediv_le_self _ (by omega)
        have d5 : ((m.t - (p.since + p.t.f)) / p.t.p + 1) * p.t.p = (m.t - (p.since + p.t.f)) / p.t.p * p.t.p + p.t.p := by rw [Int.add_mul, Int.one_mul]
        have s1 : IntKind.i64.wrap (p.since + p.t.f) = p.since + p.t.f := IntWalk.i64_in _ (by omega)
        have s2 : IntKind.i64.wrap (m.t - (p.since + p.t.f)) = m.t - (p.since + p.t.f) := IntWalk.i64_in _ (by omega)
        have d6 : 0 ≤ (m.t - (p.since + p.t.f)) / p.t.p * p.t.p := Int.mul_nonneg d3 (by omega)
        have s4 : IntKind.i64.wrap ((m.t - (p.since + p.t.f)).tdiv p.t.p) = (m.t - (p.since + p.t.f)).tdiv p.t.p := IntWalk.i64_in _ (by rw [d1]; omega)
        have s5 : IntKind.i64.wrap ((m.t - (p.since + p.t.f)).tdiv p.t.p + 1) = (m.t - (p.since + p.t.f)).tdiv p.t.p + 1 := IntWalk.i64_in _ (by rw [d1]; omega)
        have s6 : IntKind.i64.wrap (((m.t - (p.since + p.t.f)).tdiv p.t.p + 1) * p.t.p) = ((m.t - (p.since + p.t.f)).tdiv p.t.p + 1) * p.t.p := IntWalk.i64_in _ (by rw [d1, d5]; omega)
        have s7 : IntKind.i64.wrap (p.since + p.t.f + ((m.t - (p.since + p.t.f)).tdiv p.t.p + 1) * p.t.p) = p.since + p.t.f + ((m.t - (p.since + p.t.f)).tdiv p.t.p + 1) * p.t.p := IntWalk.i64_in _ (by rw [d1, d5]; omega)
        clear d1 d2 d3 d4 d5 d6
        go_enter Try.func35, Try.ntmps35
        go_wp2_with (go_quiet (fail))
        go_ret2
        exact ⟨rfl, HA.drewN _⟩
      · have e : RClk.nextP m.t p = (p.since + p.t.f, true) := by simp [RClk.nextP, hh, h2]
        rw [e]; clear e
        go_enter Try.func35, Try.ntmps35
        go_wp2
        go_ret2
        exact ⟨rfl, HA⟩

set_option maxHeartbeats 1600000 in
theorem refReady (H : Hd w0 (RClock c m :: R) w) (hm : m.Ok) (id : Int) :
    Calls Try.prog 22 #[pp c, .int .i64 id] w fun e w' => e = .returned (.int .i64 (m.ready id)) ∧ Hd w0 (RClock c m :: R) w' := by
  obtain ⟨v, H1⟩ := RClock.opened H
  have hlen := hm.len
  have c0 := H1.rd 0
  have c1 := H1.rd 1
  unfold pp
  rcases m.at?_cases id with ⟨hn, ho⟩ | ⟨i, p, rfl, hp, hi⟩
  · have hr : m.ready id = 1 := by simp [RClk.ready, hn]
    rw [hr]
    obtain ⟨a, cap, rfl, _, _, _, _⟩ := H1.b2.slc_form
    clear hr hn hm H1
    rcases ho with ho | ho
    · go_enter Try.func22, Try.ntmps22
      go_wp2
      go_ret
      exact ⟨rfl, H⟩
    · have h0 : ¬ id < 0 := by omega
      go_enter Try.func22, Try.ntmps22
      go_wp2
      go_ret
      exact ⟨rfl, H⟩
  · have hlt := lt_of_get? hi
    have hok := hm.row p (List.mem_of_getElem? hi)
    have q1 := hok.p0; have q2 := hok.p1; have q3 := hok.g0; have q4 := hok.g1; have q5 := hok.l0; have q6 := hok.l1
    have n0 := hm.n0; have n1 := hm.n1
    obtain ⟨g, cap, rfl, H2⟩ := H1.b2.slc_at (by omega)
    obtain ⟨a0, a1, a2, a3, a4, a5, a6, a7, a8, a9⟩ := row_at H2 hi
    have HA := (H.alloc (.cells p.cells.toArray 78)).tail
    have d0 := ((H1.alloc (.cells p.cells.toArray 78)).b2).rd 0
    simp only [RowR.cells, TaskR.cells, List.cons_append, List.nil_append] at HA d0
    have hr : m.ready i = RClk.readyP m.t p := by simp [RClk.ready, hp]
    rw [hr]
    clear hr hp hi hm H1 H2 hok
    by_cases hh : 0 < p.t.p
    · have e : RClk.readyP m.t p = 40 := by simp [RClk.readyP, hh]
      rw [e]; clear e
      go_enter Try.func22, Try.ntmps22
      go_wp2
      go_ret
      exact ⟨rfl, HA⟩
    · by_cases h2 : 0 < p.t.g
      · by_cases h3 : 0 ≤ p.last
        · by_cases h4 : m.t - p.last < p.t.g
          · have e : RClk.readyP m.t p = 41 := by simp [RClk.readyP, hh, h2, h3, h4]
            rw [e]; clear e
            have b2 : decide (p.t.g > 0) = true := by simpa using h2
            have b3 : decide (p.last ≥ 0) = true := by simpa using h3
            have b4 : decide (m.t - p.last < p.t.g) = true := by simpa using h4
            go_enter Try.func22, Try.ntmps22
            go_wp2_with (go_quiet (fail))
            go_ret
            exact ⟨rfl, HA.drewN _⟩
          · have e : RClk.readyP m.t p = 0 := by simp [RClk.readyP, hh, h2, h3, h4]
            rw [e]; clear e
            have b4 : decide (m.t - p.last < p.t.g) = false := by simpa using h4
            go_enter Try.func22, Try.ntmps22
            go_wp2_with (go_quiet (fail))
            go_ret
            exact ⟨rfl, HA.drewN _⟩
        · have e : RClk.readyP m.t p = 0 := by simp [RClk.readyP, hh, h2, h3]
          rw [e]; clear e
          go_enter Try.func22, Try.ntmps22
          go_wp2_with (go_quiet (fail))
          go_ret
          exact ⟨rfl, HA.drewN _⟩
      · have e : RClk.readyP m.t p = 0 := by simp [RClk.readyP, hh, h2]
        rw [e]; clear e
        go_enter Try.func22, Try.ntmps22
        go_wp2_with (go_quiet (fail))
        go_ret
        exact ⟨rfl, HA.drewN _⟩
end
end Go.Proofs.Ytdppdmmcnlmdgaa
