/-
  The plain law of chapter 10: the code's clock and the reference's answer alike. And shows.
-/
import Derived.Test.YtdppdmmcnlmdgaaRef10d
namespace Go.Proofs.Ytdppdmmcnlmdgaa
open Go.RowKit Spl

/-- When a row is due next. -/
def RowR.nxt (T : Int) (r : RowR) : Int := if r.since + r.t.f ≤ T then r.since + r.t.f + ((T - (r.since + r.t.f)) / r.t.p + 1) * r.t.p else r.since + r.t.f
structure RelP (T : Int) (p : Pat) (r : RowR) : Prop where
  per : p.period = r.t.p
  gap : p.gap = r.t.g
  has : p.has = decide (0 ≤ r.last)
  last : 0 ≤ r.last → p.last = r.last
  ff : 0 < r.t.p ↔ 0 < r.t.f
  due : 0 < r.t.p → p.due = r.nxt T
  ok : r.Ok T

theorem step_div {d p : Int} (hd : 0 ≤ d) (hp : 0 < p) : (d + 1) / p = (if (d + 1) % p = 0 then d / p + 1 else d / p) := by
  have h1 := Int.emod_add_mul_ediv (d + 1) p
  have h2 := Int.emod_add_mul_ediv d p
  have h3 := Int.emod_nonneg d (b := p) (by omega)
  have h4 := Int.emod_lt_of_pos d hp
  have h5 := Int.emod_nonneg (d + 1) (b := p) (by omega)
  have h6 := Int.emod_lt_of_pos (d + 1) hp
  by_cases h : d % p + 1 = p
  · have e1 : d + 1 = p * (d / p + 1) := by rw [Int.mul_add, Int.mul_one]; omega
    have e2 : (d + 1) % p = 0 := by rw [e1]; exact Int.mul_emod_right _ _
    rw [if_pos e2, e1, Int.mul_ediv_cancel_left _ (by omega)]
  · have e1 : d + 1 = (d % p + 1) + p * (d / p) := by omega
    have e3 : (d + 1) % p = d % p + 1 := by rw [e1, Int.add_mul_emod_self_left]; exact Int.emod_eq_of_lt (by omega) (by omega)
    have e2 : ¬ (d + 1) % p = 0 := by omega
    rw [if_neg e2, e1, Int.add_mul_ediv_left _ _ (by omega), Int.ediv_eq_zero_of_lt (by omega) (by omega)]
    omega

theorem up_iff {d p : Int} (hp : 0 < p) : (d / p + 1) * p = d + 1 ↔ (d + 1) % p = 0 := by
  have h2 := Int.emod_add_mul_ediv d p
  have h3 := Int.emod_nonneg d (b := p) (by omega)
  have h4 := Int.emod_lt_of_pos d hp
  have e : (d / p + 1) * p = p * (d / p) + p := by rw [Int.add_mul, Int.one_mul, Int.mul_comm]
  constructor
  · intro h
    rw [← h]
    exact Int.mul_emod_left _ _
  · intro h
    by_cases h0 : d % p + 1 = p
    · omega
    · have e1 : d + 1 = (d % p + 1) + p * (d / p) := by omega
      have e3 : (d + 1) % p = d % p + 1 := by rw [e1, Int.add_mul_emod_self_left]; exact Int.emod_eq_of_lt (by omega) (by omega)
      omega

namespace RelP
variable {T : Int} {p : Pat} {r : RowR}
theorem nxt_isDue (h : RelP T p r) : p.isDue (T + 1) = r.due (T + 1) := by
  unfold Pat.isDue RowR.due
  rw [h.per]
  by_cases hp : 0 < r.t.p
  · rw [h.due hp, decide_eq_true hp, Bool.true_and, Bool.true_and]
    unfold RowR.nxt
    by_cases hs : r.since + r.t.f ≤ T
    · rw [if_pos hs]
      have e1 : decide (0 ≤ T + 1 - r.since - r.t.f) = true := decide_eq_true (by omega)
      rw [e1, Bool.true_and]
      have e2 : T + 1 - r.since - r.t.f = (T - (r.since + r.t.f)) + 1 := by omega
      rw [e2]
      obtain ⟨d, hd⟩ : ∃ d, d = T - (r.since + r.t.f) := ⟨_, rfl⟩
      rw [← hd]
      have hiff := up_iff (d := d) hp
      by_cases h0 : (d + 1) % r.t.p = 0
      · have h1 := hiff.2 h0
        rw [decide_eq_true h0, decide_eq_true (by omega)]
      · have h1 : ¬ (d / r.t.p + 1) * r.t.p = d + 1 := fun h => h0 (hiff.1 h)
        rw [decide_eq_false h0, decide_eq_false (by omega)]
    · rw [if_neg hs]
      by_cases he : r.since + r.t.f = T + 1
      · have e2 : T + 1 - r.since - r.t.f = 0 := by omega
        rw [e2]; simp [he]
      · have e1 : decide (0 ≤ T + 1 - r.since - r.t.f) = false := decide_eq_false (by omega)
        rw [e1]; simp [he]
  · rw [decide_eq_false hp]; rfl
theorem nxt_tick (h : RelP T p r) (hp : 0 < r.t.p) : r.nxt (T + 1) = if r.due (T + 1) then r.nxt T + r.t.p else r.nxt T := by
  rw [← h.nxt_isDue]
  have hd := h.due hp
  unfold Pat.isDue
  rw [h.per, decide_eq_true hp, Bool.true_and]
  unfold RowR.nxt at *
  by_cases hs : r.since + r.t.f ≤ T
  · rw [if_pos hs] at hd ⊢
    rw [if_pos (by omega)]
    have e2 : T + 1 - (r.since + r.t.f) = (T - (r.since + r.t.f)) + 1 := by omega
    rw [e2, step_div (by omega) hp]
    obtain ⟨d, hdd⟩ : ∃ d, d = T - (r.since + r.t.f) := ⟨_, rfl⟩
    rw [← hdd] at hd ⊢
    have hiff := up_iff (d := d) hp
    by_cases h0 : (d + 1) % r.t.p = 0
    · have h1 := hiff.2 h0
      rw [if_pos h0, if_pos (decide_eq_true (by omega)), Int.add_mul (d / r.t.p + 1), Int.one_mul]
      omega
    · have h1 : ¬ (d / r.t.p + 1) * r.t.p = d + 1 := fun h => h0 (hiff.1 h)
      rw [if_neg h0, if_neg (by rw [decide_eq_false (by omega)]; simp)]
  · rw [if_neg hs] at hd ⊢
    by_cases he : r.since + r.t.f = T + 1
    · rw [if_pos (by omega), if_pos (decide_eq_true (by omega))]
      have e2 : T + 1 - (r.since + r.t.f) = 0 := by omega
      rw [e2]; simp
    · rw [if_neg (by omega), if_neg (by rw [decide_eq_false (by omega)]; simp)]
theorem tick (h : RelP T p r) (h0 : 0 ≤ T) : RelP (T + 1) (p.tick (T + 1)) r := by
  have hd := h.nxt_isDue
  have ho := h.ok
  have hok : r.Ok (T + 1) := ⟨ho.p0, ho.p1, ho.f0, ho.f1, ho.g0, ho.g1, ho.s0, by have := ho.s1; omega, ho.l0, by have := ho.l1; omega⟩
  unfold Pat.tick
  by_cases hq : r.due (T + 1) = true
  · rw [if_pos (by rw [hd]; exact hq)]
    refine ⟨h.per, h.gap, h.has, h.last, h.ff, fun hp => ?_, hok⟩
    show p.due + p.period = _
    rw [h.nxt_tick hp, if_pos hq, h.due hp, h.per]
  · rw [if_neg (by rw [hd]; exact hq)]
    refine ⟨h.per, h.gap, h.has, h.last, h.ff, fun hp => ?_, hok⟩
    rw [h.nxt_tick hp, if_neg hq, h.due hp]
theorem note (h : RelP T p r) (h0 : 0 ≤ T) : RelP T { p with last := T, has := true } { r with last := T } := by
  have ho := h.ok
  exact ⟨h.per, h.gap, by simp [h0], fun _ => rfl, h.ff, h.due, ⟨ho.p0, ho.p1, ho.f0, ho.f1, ho.g0, ho.g1, ho.s0, ho.s1, by show -1 ≤ T; omega, Int.le_refl _⟩⟩
theorem new (t : TaskR) (h0 : 0 ≤ T) (ht : timesOk t.p t.f t.g = true) : RelP T ⟨t.p, t.g, T + t.f, 0, false⟩ ⟨t, T, -1⟩ := by
  obtain ⟨h1, h2, h3, h4, h5⟩ := timesOk_iff.1 ht
  refine ⟨rfl, rfl, by simp, fun h => by simp at h, h5, fun hp => ?_, ⟨h1.1, h1.2, h2.1, h2.2, h3.1, h3.2, h0, Int.le_refl _, Int.le_refl _, by show (-1 : Int) ≤ T; omega⟩⟩
  have := h5.1 hp
  unfold RowR.nxt
  rw [if_neg (by show ¬ T + t.f ≤ T; omega)]
theorem lastP_eq (h : RelP T p r) : RClk.lastP r = Clk.lastP p := by
  unfold RClk.lastP Clk.lastP
  rw [h.has]
  by_cases hl : 0 ≤ r.last
  · rw [if_neg (by omega), if_pos (decide_eq_true hl), h.last hl]
  · rw [if_pos (by omega), if_neg (by simp [hl])]
theorem nextP_eq (h : RelP T p r) : RClk.nextP T r = Clk.nextP p := by
  unfold RClk.nextP Clk.nextP
  rw [h.per]
  by_cases hp : r.t.p = 0
  · rw [if_pos hp, if_pos hp]
  · rw [if_neg hp, if_neg hp]
    have h1 := h.ok.p0
    have hd := h.due (by omega)
    unfold RowR.nxt at hd
    rw [hd]
    by_cases hs : r.since + r.t.f ≤ T
    · rw [if_pos hs, if_pos hs, Int.tdiv_eq_ediv_of_nonneg (by omega)]
    · rw [if_neg hs, if_neg hs]
theorem readyP_eq (h : RelP T p r) : RClk.readyP T r = Clk.readyP T p := by
  unfold RClk.readyP Clk.readyP
  rw [h.per, h.gap, h.has]
  by_cases hp : 0 < r.t.p
  · rw [if_pos hp, if_pos hp]
  · rw [if_neg hp, if_neg hp]
    by_cases hl : 0 ≤ r.last
    · have h1 := h.ok.l1
      rw [h.last hl, decide_eq_true hl, Bool.true_and]
      by_cases hg : T - r.last < r.t.g
      · rw [if_pos ⟨by omega, hl, hg⟩, if_pos (decide_eq_true hg)]
      · rw [if_neg (fun h => hg h.2.2), if_neg (by simp [hg])]
    · rw [if_neg (fun h => hl h.2.1), if_neg (by simp [hl])]
end RelP

/-- The code's clock and the reference's are alike. -/
def RelC (m : Clk) (q : RClk) : Prop := m.now = q.t ∧ ∃ z : List (Pat × RowR), m.l = z.map Prod.fst ∧ q.l = z.map Prod.snd ∧ ∀ x ∈ z, RelP m.now x.1 x.2
namespace RelC
variable {m : Clk} {q : RClk}
theorem new : RelC ⟨0, []⟩ ⟨0, []⟩ := ⟨rfl, [], rfl, rfl, fun _ h => by cases h⟩
theorem len (h : RelC m q) : m.l.length = q.l.length := by
  obtain ⟨_, z, h1, h2, _⟩ := h
  rw [h1, h2]; simp
theorem ok (h : RelC m q) (hm : m.Ok) : q.Ok := by
  have hl := h.len
  obtain ⟨ht, z, h1, h2, h3⟩ := h
  refine ⟨ht ▸ hm.n0, ht ▸ hm.n1, hl ▸ hm.len, fun r hr => ?_⟩
  rw [h2] at hr
  obtain ⟨x, hx, rfl⟩ := List.mem_map.1 hr
  exact ht ▸ (h3 x hx).ok
theorem at_ (h : RelC m q) (id : Int) : (m.at? id = none ∧ q.at? id = none) ∨ ∃ p r, m.at? id = some p ∧ q.at? id = some r ∧ RelP m.now p r := by
  obtain ⟨ht, z, h1, h2, h3⟩ := h
  unfold Clk.at? RClk.at?
  by_cases h0 : 0 ≤ id
  · rw [if_pos h0, if_pos h0, h1, h2, List.getElem?_map, List.getElem?_map]
    cases e : z[id.toNat]? with
    | none => exact .inl ⟨rfl, rfl⟩
    | some x => exact .inr ⟨x.1, x.2, rfl, rfl, h3 x (List.mem_of_getElem? e)⟩
  · rw [if_neg h0, if_neg h0]; exact .inl ⟨rfl, rfl⟩
theorem last_eq (h : RelC m q) (id : Int) : q.last id = m.last id := by
  unfold RClk.last Clk.last
  rcases h.at_ id with ⟨e1, e2⟩ | ⟨p, r, e1, e2, hr⟩ <;> rw [e1, e2]
  exact hr.lastP_eq
theorem next_eq (h : RelC m q) (id : Int) : q.next id = m.next id := by
  unfold RClk.next Clk.next
  rcases h.at_ id with ⟨e1, e2⟩ | ⟨p, r, e1, e2, hr⟩ <;> rw [e1, e2]
  rw [← h.1]; exact hr.nextP_eq
theorem ready_eq (h : RelC m q) (id : Int) : q.ready id = m.ready id := by
  unfold RClk.ready Clk.ready
  rcases h.at_ id with ⟨e1, e2⟩ | ⟨p, r, e1, e2, hr⟩ <;> rw [e1, e2]
  show RClk.readyP q.t r = Clk.readyP m.now p
  rw [← h.1]; exact hr.readyP_eq
theorem noteE_eq (h : RelC m q) (id : Int) : q.noteE id = m.noteE id := by
  unfold RClk.noteE Clk.noteE
  rcases h.at_ id with ⟨e1, e2⟩ | ⟨p, r, e1, e2, hr⟩ <;> rw [e1, e2]
theorem note (h : RelC m q) (hm : m.Ok) (id : Int) : RelC (m.note id) (q.note id) := by
  unfold RClk.note Clk.note
  rcases h.at_ id with ⟨e1, e2⟩ | ⟨p, r, e1, e2, hr⟩ <;> rw [e1, e2]
  · exact h
  · obtain ⟨ht, z, h1, h2, h3⟩ := h
    refine ⟨ht, z.set id.toNat ({ p with last := m.now, has := true }, { r with last := m.now }), ?_, ?_, fun x hx => ?_⟩
    · show m.l.set _ _ = _
      rw [h1, List.map_set]
    · show q.l.set _ _ = _
      rw [h2, List.map_set, ht]
    · rcases List.mem_or_eq_of_mem_set hx with hx | rfl
      · exact h3 x hx
      · exact hr.note hm.n0
theorem addN_eq (h : RelC m q) (t : TaskR) : q.addN t = m.addN t.p t.f t.g := by
  unfold RClk.addN Clk.addN RClk.full Clk.full
  rw [h.len]
theorem addE_eq (h : RelC m q) (t : TaskR) : q.addE t = m.addE t.p t.f t.g := by
  unfold RClk.addE Clk.addE RClk.full Clk.full
  rw [h.len]
theorem add (h : RelC m q) (hm : m.Ok) (t : TaskR) : RelC (m.add t.p t.f t.g) (q.add t) := by
  unfold RClk.add Clk.add
  have hf : q.full = m.full := by unfold RClk.full Clk.full; rw [h.len]
  rw [hf]
  by_cases h1 : m.full = true
  · rw [if_pos h1, if_pos h1]; exact h
  · rw [if_neg h1, if_neg h1]
    by_cases h2 : timesOk t.p t.f t.g = true
    · rw [if_pos h2, if_pos h2]
      obtain ⟨ht, z, e1, e2, h3⟩ := h
      refine ⟨ht, z ++ [(⟨t.p, t.g, m.now + t.f, 0, false⟩, ⟨t, m.now, -1⟩)], ?_, ?_, fun x hx => ?_⟩
      · show m.l ++ _ = _
        rw [e1]; simp
      · show q.l ++ _ = _
        rw [e2, ht]; simp
      · rcases List.mem_append.1 hx with hx | hx
        · exact h3 x hx
        · obtain rfl := List.mem_singleton.1 hx
          exact RelP.new t hm.n0 h2
    · rw [if_neg h2, if_neg h2]; exact h
theorem dueIds_eq (T : Int) (z : List (Pat × RowR)) (h : ∀ x ∈ z, RelP T x.1 x.2) : ∀ k, dueR (T + 1) k (z.map Prod.snd) = dueIds (T + 1) k (z.map Prod.fst) := by
  induction z with
  | nil => intro k; rfl
  | cons x z ih =>
    intro k
    simp only [List.map_cons, dueR, dueIds]
    rw [(h x (List.mem_cons_self)).nxt_isDue, ih (fun y hy => h y (List.mem_cons_of_mem _ hy))]
theorem tickL_eq (h : RelC m q) : q.tickL = m.tickL := by
  unfold RClk.tickL Clk.tickL RClk.atEnd Clk.atEnd
  obtain ⟨ht, z, e1, e2, h3⟩ := h
  rw [← ht, e1, e2, dueIds_eq _ z h3]
theorem tickE_eq (h : RelC m q) : q.tickE = m.tickE := by
  unfold RClk.tickE Clk.tickE RClk.atEnd Clk.atEnd
  rw [h.1]
theorem tick (h : RelC m q) (hm : m.Ok) : RelC m.tick q.tick := by
  unfold RClk.tick Clk.tick RClk.atEnd Clk.atEnd
  rw [← h.1]
  by_cases he : decide (1099511627776 ≤ m.now) = true
  · rw [if_pos he, if_pos he]; exact h
  · rw [if_neg he, if_neg he]
    obtain ⟨ht, z, e1, e2, h3⟩ := h
    refine ⟨rfl, z.map (fun x => (x.1.tick (m.now + 1), x.2)), ?_, ?_, fun x hx => ?_⟩
    · show m.l.map _ = _
      rw [e1]; simp
    · show q.l = _
      rw [e2]; simp
    · obtain ⟨y, hy, rfl⟩ := List.mem_map.1 hx
      exact (h3 y hy).tick hm.n0
end RelC
end Go.Proofs.Ytdppdmmcnlmdgaa
