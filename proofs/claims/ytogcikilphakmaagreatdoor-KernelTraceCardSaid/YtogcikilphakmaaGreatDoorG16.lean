/-
  Merged texts of one proof: RelM, Rel2, Rel3, Rel4.
-/
import Derived.Deep.RegionHeld3
import Derived.Test.YtogcikilphakmaaGreatDoorG15

/-
  Package release as plain functions on lists and numbers: no Go and no memory.
-/
namespace Go.Proofs.YtogcikilphakmaaGreatDoor

structure Pat where
  period : Int
  gap : Int
  due : Int
  last : Int
  has : Bool

structure Clk where
  now : Int
  l : List Pat

def tOk (n : Int) : Bool := decide (0 ≤ n) && decide (n ≤ 1048576)
def timesOk (p f g : Int) : Bool := tOk p && tOk f && tOk g && (decide (p = 0) || decide (g = 0)) && (decide (0 < p) == decide (0 < f))

namespace Clk
def full (m : Clk) : Bool := decide (64 ≤ m.l.length)
def add (m : Clk) (p f g : Int) : Clk := if m.full then m else if timesOk p f g then ⟨m.now, m.l ++ [⟨p, g, m.now + f, 0, false⟩]⟩ else m
def addN (m : Clk) (p f g : Int) : Int := if m.full then -1 else if timesOk p f g then m.l.length else -1
def addE (m : Clk) (p f g : Int) : Int := if m.full then 4 else if timesOk p f g then 0 else 1
end Clk

def Pat.isDue (now : Int) (p : Pat) : Bool := decide (0 < p.period) && decide (p.due = now)
def Pat.tick (now : Int) (p : Pat) : Pat := if p.isDue now then { p with due := p.due + p.period } else p
def dueIds (now : Int) : Nat → List Pat → List Int
  | _, [] => []
  | k, p :: ps => if p.isDue now then (k : Int) :: dueIds now (k + 1) ps else dueIds now (k + 1) ps

namespace Clk
def atEnd (m : Clk) : Bool := decide (1099511627776 ≤ m.now)
def tick (m : Clk) : Clk := if m.atEnd then m else ⟨m.now + 1, m.l.map (Pat.tick (m.now + 1))⟩
def tickL (m : Clk) : List Int := if m.atEnd then [] else dueIds (m.now + 1) 0 m.l
def tickE (m : Clk) : Int := if m.atEnd then 1 else 0
def at? (m : Clk) (id : Int) : Option Pat := if 0 ≤ id then m.l[id.toNat]? else none
def readyP (now : Int) (p : Pat) : Int := if 0 < p.period then 40 else if p.has && decide (now - p.last < p.gap) then 41 else 0
def ready (m : Clk) (id : Int) : Int := match m.at? id with | none => 1 | some p => readyP m.now p
def note (m : Clk) (id : Int) : Clk := match m.at? id with | none => m | some p => ⟨m.now, m.l.set id.toNat { p with last := m.now, has := true }⟩
def noteE (m : Clk) (id : Int) : Int := match m.at? id with | none => 1 | some _ => 0
def lastP (p : Pat) : Int × Bool := if p.has then (p.last, true) else (0, false)
def last (m : Clk) (id : Int) : Int × Bool := match m.at? id with | none => (0, false) | some p => lastP p
def nextP (p : Pat) : Int × Bool := if p.period = 0 then (0, false) else (p.due, true)
def next (m : Clk) (id : Int) : Int × Bool := match m.at? id with | none => (0, false) | some p => nextP p
end Clk

/-- What every clock's patterns keep. -/
structure Pat.Ok (now : Int) (p : Pat) : Prop where
  p0 : 0 ≤ p.period
  p1 : p.period ≤ 1048576
  g0 : 0 ≤ p.gap
  g1 : p.gap ≤ 1048576
  d0 : 0 ≤ p.due
  d1 : p.due ≤ now + 1048576
  d2 : 0 < p.period → now < p.due
  l0 : 0 ≤ p.last
  l1 : p.last ≤ now
structure Clk.Ok (m : Clk) : Prop where
  n0 : 0 ≤ m.now
  n1 : m.now ≤ 1099511627776
  len : m.l.length ≤ 64
  pat : ∀ p ∈ m.l, p.Ok m.now

theorem Clk.Ok.new : Clk.Ok ⟨0, []⟩ := ⟨by decide, by decide, by decide, by simp⟩
theorem tOk_iff {n : Int} : tOk n = true ↔ 0 ≤ n ∧ n ≤ 1048576 := by simp [tOk]
theorem timesOk_iff {p f g : Int} : timesOk p f g = true ↔ (0 ≤ p ∧ p ≤ 1048576) ∧ (0 ≤ f ∧ f ≤ 1048576) ∧ (0 ≤ g ∧ g ≤ 1048576) ∧ (p = 0 ∨ g = 0) ∧ (0 < p ↔ 0 < f) := by
  simp [timesOk, tOk, and_assoc]
theorem Clk.Ok.add {m : Clk} (h : m.Ok) (p f g : Int) : (m.add p f g).Ok := by
  unfold Clk.add
  by_cases hf : m.full = true
  · rw [if_pos hf]; exact h
  · rw [if_neg hf]
    by_cases ht : timesOk p f g = true
    · rw [if_pos ht]
      obtain ⟨h1, h2, h3, h4, h5⟩ := timesOk_iff.1 ht
      have hl : m.l.length < 64 := by simpa [Clk.full] using hf
      refine ⟨h.n0, h.n1, by simp; omega, fun q hq => ?_⟩
      rcases List.mem_append.1 hq with hq | hq
      · exact h.pat q hq
      · obtain rfl := List.mem_singleton.1 hq
        have := h.n0
        exact ⟨h1.1, h1.2, h3.1, h3.2, by show 0 ≤ m.now + f; omega, by show m.now + f ≤ m.now + 1048576; omega, fun hp => by show m.now < m.now + f; have := h5.1 hp; omega, Int.le_refl 0, h.n0⟩
    · rw [if_neg ht]; exact h
theorem Pat.Ok.tick {p : Pat} {now : Int} (h : p.Ok now) (hn : 0 ≤ now) : (p.tick (now + 1)).Ok (now + 1) := by
  unfold Pat.tick
  by_cases hd : p.isDue (now + 1) = true
  · rw [if_pos hd]
    obtain ⟨e1, e2⟩ : 0 < p.period ∧ p.due = now + 1 := by simpa [Pat.isDue] using hd
    have := h.p1; have := h.l1
    exact ⟨h.p0, h.p1, h.g0, h.g1, by show 0 ≤ p.due + p.period; omega, by show p.due + p.period ≤ _; omega, fun _ => by show _ < p.due + p.period; omega, h.l0, by show p.last ≤ _; omega⟩
  · rw [if_neg hd]
    have hd' : ¬ (0 < p.period ∧ p.due = now + 1) := by simpa [Pat.isDue] using hd
    have := h.d1; have := h.l1
    refine ⟨h.p0, h.p1, h.g0, h.g1, h.d0, by omega, fun hp => ?_, h.l0, by omega⟩
    have := h.d2 hp
    have : p.due ≠ now + 1 := fun e => hd' ⟨hp, e⟩
    omega
theorem Clk.Ok.tick {m : Clk} (h : m.Ok) : m.tick.Ok := by
  unfold Clk.tick
  by_cases he : m.atEnd = true
  · rw [if_pos he]; exact h
  · rw [if_neg he]
    have he' : m.now < 1099511627776 := by simpa [Clk.atEnd] using he
    have := h.n0
    refine ⟨by show 0 ≤ m.now + 1; omega, by show m.now + 1 ≤ _; omega, by simpa using h.len, fun q hq => ?_⟩
    obtain ⟨p, hp, rfl⟩ := List.mem_map.1 hq
    exact (h.pat p hp).tick h.n0
theorem Clk.at?_mem {m : Clk} {id : Int} {p : Pat} (h : m.at? id = some p) : p ∈ m.l := by
  unfold Clk.at? at h
  by_cases h0 : 0 ≤ id
  · rw [if_pos h0] at h; exact List.mem_of_getElem? h
  · rw [if_neg h0] at h; cases h
theorem Clk.Ok.note {m : Clk} (h : m.Ok) (id : Int) : (m.note id).Ok := by
  unfold Clk.note
  cases e : m.at? id with
  | none => exact h
  | some p =>
    have hp := h.pat p (Clk.at?_mem e)
    refine ⟨h.n0, h.n1, by simpa using h.len, fun q hq => ?_⟩
    rcases List.mem_or_eq_of_mem_set hq with hq | rfl
    · exact h.pat q hq
    · exact ⟨hp.p0, hp.p1, hp.g0, hp.g1, hp.d0, hp.d1, hp.d2, h.n0, Int.le_refl _⟩

/-! ### a tick, pattern by pattern -/
def tickTo (now : Int) (l : List Pat) (k : Nat) : List Pat := (l.take k).map (Pat.tick now) ++ l.drop k
def idsTo (now : Int) (l : List Pat) (k : Nat) : List Int := dueIds now 0 (l.take k)
theorem tickTo_zero (now : Int) (l : List Pat) : tickTo now l 0 = l := by simp [tickTo]
theorem tickTo_all (now : Int) (l : List Pat) : tickTo now l l.length = l.map (Pat.tick now) := by simp [tickTo]
theorem idsTo_zero (now : Int) (l : List Pat) : idsTo now l 0 = [] := by simp [idsTo, dueIds]
theorem idsTo_all (now : Int) (l : List Pat) : idsTo now l l.length = dueIds now 0 l := by simp [idsTo]
theorem tickTo_length (now : Int) (l : List Pat) (k : Nat) : (tickTo now l k).length = l.length := by simp [tickTo]; omega
theorem tickTo_at {now : Int} {l : List Pat} {k : Nat} {p : Pat} (h : l[k]? = some p) : (tickTo now l k)[k]? = some p := by
  have hk := (List.getElem?_eq_some_iff.1 h).1
  unfold tickTo
  rw [List.getElem?_append_right (by simp; omega)]
  have e : k - ((l.take k).map (Pat.tick now)).length = 0 := by simp; omega
  rw [e, List.getElem?_drop]
  exact h
theorem tickTo_succ {now : Int} {l : List Pat} {k : Nat} {p : Pat} (h : l[k]? = some p) : tickTo now l (k + 1) = (tickTo now l k).set k (p.tick now) := by
  have hk := (List.getElem?_eq_some_iff.1 h).1
  have e1 : l.take (k + 1) = l.take k ++ [p] := by rw [List.take_add_one, h]; rfl
  have e2 : l.drop k = p :: l.drop (k + 1) := by
    rw [List.drop_eq_getElem_cons hk]
    have := List.getElem?_eq_getElem hk
    rw [h] at this
    rw [Option.some.inj this]
  unfold tickTo
  rw [e1, e2, List.set_append_right _ _ (by simp; omega)]
  have e : k - ((l.take k).map (Pat.tick now)).length = 0 := by simp; omega
  rw [e]
  simp
theorem tick_same {now : Int} {p : Pat} (h : p.isDue now = false) : p.tick now = p := by simp [Pat.tick, h]
theorem tickTo_same {now : Int} {l : List Pat} {k : Nat} {p : Pat} (h : l[k]? = some p) (hd : p.isDue now = false) : tickTo now l (k + 1) = tickTo now l k := by
  rw [tickTo_succ h, tick_same hd]
  have h2 := tickTo_at (now := now) h
  obtain ⟨hk, rfl⟩ := List.getElem?_eq_some_iff.1 h2
  exact List.set_getElem_self hk
theorem dueIds_append (now : Int) (a b : List Pat) : ∀ k, dueIds now k (a ++ b) = dueIds now k a ++ dueIds now (k + a.length) b := by
  induction a with
  | nil => intro k; rfl
  | cons p a ih =>
    intro k
    simp only [List.cons_append, dueIds, List.length_cons]
    have e : k + (a.length + 1) = k + 1 + a.length := by omega
    split <;> simp [ih, e]
theorem idsTo_succ {now : Int} {l : List Pat} {k : Nat} {p : Pat} (h : l[k]? = some p) : idsTo now l (k + 1) = idsTo now l k ++ (if p.isDue now then [(k : Int)] else []) := by
  have hk := (List.getElem?_eq_some_iff.1 h).1
  have e1 : l.take (k + 1) = l.take k ++ [p] := by rw [List.take_add_one, h]; rfl
  unfold idsTo
  rw [e1, dueIds_append]
  have e : 0 + (l.take k).length = k := by simp; omega
  rw [e]
  rfl
theorem idsTo_due {now : Int} {l : List Pat} {k : Nat} {p : Pat} (h : l[k]? = some p) (hd : p.isDue now = true) : idsTo now l (k + 1) = idsTo now l k ++ [(k : Int)] := by
  rw [idsTo_succ h, if_pos hd]
theorem idsTo_not {now : Int} {l : List Pat} {k : Nat} {p : Pat} (h : l[k]? = some p) (hd : p.isDue now = false) : idsTo now l (k + 1) = idsTo now l k := by
  rw [idsTo_succ h, if_neg (by simp [hd])]; simp
theorem dueIds_length (now : Int) (l : List Pat) : ∀ k, (dueIds now k l).length ≤ l.length := by
  induction l with
  | nil => intro k; simp [dueIds]
  | cons p l ih =>
    intro k
    have := ih (k + 1)
    simp only [dueIds, List.length_cons]
    split <;> simp <;> omega
theorem idsTo_length (now : Int) (l : List Pat) (k : Nat) : (idsTo now l k).length ≤ l.length := by
  have := dueIds_length now (l.take k) 0
  simp only [List.length_take] at this
  unfold idsTo
  omega
end Go.Proofs.YtogcikilphakmaaGreatDoor

/-
  Package release over the separation logic: a clock in memory; New, Now, of, Ready, Note, Last, Next. Every clock.
-/
namespace Go.Proofs.YtogcikilphakmaaGreatDoor
open Go.RowKit Spl

def Pat.cells (p : Pat) : Array Value := #[.int .i64 p.period, .int .i64 p.gap, .int .i64 p.due, .int .i64 p.last, .bool p.has]
def patB (b : Nat) (p : Pat) : Pr := cel b 138 p.cells
/-- A clock at block c. -/
def Clock (c : Nat) (m : Clk) : Pr := ex fun va : Value × List Nat => all [fact (va.2.length = m.l.length), cel c 122 #[.int .i64 m.now, va.1], Slc 134 1 va.1 m.l.length (va.2.map pp), all (List.zipWith patB va.2 m.l)]

section
variable {w0 w : World} {R : List Pr} {c : Nat} {m : Clk}
theorem Clock.opened (H : Hd w0 (Clock c m :: R) w) : ∃ v bs, bs.length = m.l.length ∧
    Hd w0 (cel c 122 #[.int .i64 m.now, v] :: Slc 134 1 v m.l.length (bs.map pp) :: all (List.zipWith patB bs m.l) :: R) w := by
  obtain ⟨⟨v, bs⟩, H⟩ := H.out
  have H2 := H.flat
  exact ⟨v, bs, Hd.get H2, H2.tail⟩
theorem Clock.shut {v : Value} {bs : List Nat} (H : Hd w0 (cel c 122 #[.int .i64 m.now, v] :: Slc 134 1 v m.l.length (bs.map pp) :: all (List.zipWith patB bs m.l) :: R) w) (h : bs.length = m.l.length) :
    Hd w0 (Clock c m :: R) w := Hd.into (v, bs) (Hd.pack (L := [_, _, _, _]) (H.put h))

theorem clkNew (H : Hd w0 R w) : Calls Tryz.prog 25 #[] w fun e w' => ∃ c, e = .returned (pp c) ∧ Hd w0 (Clock c ⟨0, []⟩ :: R) w' := by
  go_enter Tryz.func25, Tryz.ntmps25
  go_wp2
  go_ret
  refine ⟨_, rfl, Clock.shut (v := .slice none 0 0) (bs := []) ?_ rfl⟩
  exact (((H.alloc (.cells #[.int .i64 0, .slice none 0 0] 122)).all_nil).slc_nil _ 1).b3
theorem clkNow (H : Hd w0 (Clock c m :: R) w) : Calls Tryz.prog 34 #[pp c] w fun e w' => e = .returned (.int .i64 m.now) ∧ w = w' := by
  obtain ⟨v, bs, hl, H1⟩ := Clock.opened H
  have c0 := H1.rd 0
  unfold pp
  clear H H1
  go_enter Tryz.func34, Tryz.ntmps34
  go_wp2
  go_ret
  exact ⟨rfl, rfl⟩

theorem clkOf_in {v : Value} {bs : List Nat} {n : Int} {k : Nat} (H : Hd w0 (cel c 122 #[.int .i64 n, v] :: Slc 134 1 v k (bs.map pp) :: R) w) (hk : k ≤ 1000) (i b : Nat) (hb : bs[i]? = some b) :
    Calls Tryz.prog 57 #[pp c, .int .i64 i] w fun e w' => e = .returned (pp b) ∧ w = w' := by
  have hcall := patAt_in (o := 1) H rfl (by omega) i b (by simp [hb])
  unfold pp at hcall ⊢
  go_enter Tryz.func57, Tryz.ntmps57
  go_wp2_with (go_at_call 91; refine hcall.mono ?_; rintro e w' ⟨rfl, rfl⟩)
  go_ret
  exact ⟨rfl, rfl⟩
theorem clkOf_out {v : Value} {bs : List Nat} {n : Int} {k : Nat} (H : Hd w0 (cel c 122 #[.int .i64 n, v] :: Slc 134 1 v k (bs.map pp) :: R) w) (i : Int) (hb : i < 0 ∨ k ≤ i) :
    Calls Tryz.prog 57 #[pp c, .int .i64 i] w fun e w' => e = .returned (.pointer none) ∧ w = w' := by
  have hcall := patAt_out (o := 1) H rfl i hb
  unfold pp
  go_enter Tryz.func57, Tryz.ntmps57
  go_wp2_with (go_at_call 91; refine hcall.mono ?_; rintro e w' ⟨rfl, rfl⟩)
  go_ret
  exact ⟨rfl, rfl⟩
end
end Go.Proofs.YtogcikilphakmaaGreatDoor

/-
  Package release over the separation logic: Ready, Note, Last, Next answer as the plain functions say. Every clock, every number.
-/
namespace Go.Proofs.YtogcikilphakmaaGreatDoor
open Go.RowKit Spl

theorem Clk.at?_cases (m : Clk) (id : Int) : (m.at? id = none ∧ (id < 0 ∨ m.l.length ≤ id)) ∨ ∃ (i : Nat) (p : Pat), id = i ∧ m.at? id = some p ∧ m.l[i]? = some p := by
  unfold Clk.at?
  by_cases h : 0 ≤ id
  · rw [if_pos h]
    cases e : m.l[id.toNat]? with
    | none => exact .inl ⟨rfl, .inr (by have := List.getElem?_eq_none_iff.1 e; omega)⟩
    | some p => exact .inr ⟨id.toNat, p, by omega, rfl, e⟩
  · rw [if_neg h]
    exact .inl ⟨rfl, .inl (by omega)⟩

section
variable {w0 w : World} {R : List Pr} {c : Nat} {m : Clk}

theorem clkReady (H : Hd w0 (Clock c m :: R) w) (hm : m.Ok) (id : Int) :
    Calls Tryz.prog 30 #[pp c, .int .i64 id] w fun e w' => e = .returned (.int .i64 (m.ready id)) ∧ Hd w0 (Clock c m :: R) w' := by
  obtain ⟨v, bs, hl, H1⟩ := Clock.opened H
  have hlen := hm.len
  rcases m.at?_cases id with ⟨hn, ho⟩ | ⟨i, p, rfl, hp, hi⟩
  · have hcall := clkOf_out H1 id ho
    have hr : m.ready id = 1 := by simp [Clk.ready, hn]
    unfold pp at hcall ⊢
    rw [hr]
    clear hr hn ho hl hm hlen
    go_enter Tryz.func30, Tryz.ntmps30
    go_wp2_with (go_at_call 57; refine hcall.mono ?_; rintro e w' ⟨rfl, rfl⟩)
    go_ret
    exact ⟨rfl, H⟩
  · obtain ⟨b, hb⟩ : ∃ b, bs[i]? = some b := ⟨bs[i]'(by have := lt_of_get? hi; omega), List.getElem?_eq_getElem _⟩
    have hcall := clkOf_in H1 (by omega) i b hb
    have hr : m.ready i = Clk.readyP m.now p := by simp [Clk.ready, hp]
    have hok := hm.pat p (Clk.at?_mem hp)
    have H2 := (H1.b3.row_nth hb hi)
    have c0 := H1.rd 0
    have cp : ∀ k, w.cell? ⟨b, k, none⟩ = p.cells[k]? := H2.rd
    simp only [Pat.cells] at cp
    have n0 := hm.n0; have n1 := hm.n1; have l0 := hok.l0; have l1 := hok.l1; have p0 := hok.p0
    rw [hr]
    unfold pp at hcall ⊢
    clear hr hp hi hl hm hlen hb H2 H1 hok
    by_cases h1 : 0 < p.period
    · have e : Clk.readyP m.now p = 40 := by simp [Clk.readyP, h1]
      rw [e]; clear e
      go_enter Tryz.func30, Tryz.ntmps30
      go_wp2_with (go_at_call 57; refine hcall.mono ?_; rintro e w' ⟨rfl, rfl⟩)
      go_ret
      exact ⟨rfl, H⟩
    · cases hh : p.has with
      | false =>
        have e : Clk.readyP m.now p = 0 := by simp [Clk.readyP, h1, hh]
        rw [e]; clear e
        rw [hh] at cp
        go_enter Tryz.func30, Tryz.ntmps30
        go_wp2_with (first | (go_at_call 57; refine hcall.mono ?_; rintro e w' ⟨rfl, rfl⟩) | go_quiet (fail))
        go_ret
        exact ⟨rfl, H.drewN _⟩
      | true =>
        rw [hh] at cp
        by_cases h2 : m.now - p.last < p.gap
        · have e : Clk.readyP m.now p = 41 := by simp [Clk.readyP, h1, hh, h2]
          rw [e]; clear e
          have hd : decide (m.now - p.last < p.gap) = true := by simpa using h2
          go_enter Tryz.func30, Tryz.ntmps30
          go_wp2_with (first | (go_at_call 57; refine hcall.mono ?_; rintro e w' ⟨rfl, rfl⟩) | go_quiet (fail))
          go_ret
          exact ⟨rfl, H.drewN _⟩
        · have e : Clk.readyP m.now p = 0 := by simp [Clk.readyP, h1, hh, h2]
          rw [e]; clear e
          have hd : decide (m.now - p.last < p.gap) = false := by simpa using h2
          go_enter Tryz.func30, Tryz.ntmps30
          go_wp2_with (first | (go_at_call 57; refine hcall.mono ?_; rintro e w' ⟨rfl, rfl⟩) | go_quiet (fail))
          go_ret
          exact ⟨rfl, H.drewN _⟩

theorem clkNote (H : Hd w0 (Clock c m :: R) w) (hm : m.Ok) (id : Int) :
    Calls Tryz.prog 32 #[pp c, .int .i64 id] w fun e w' => e = .returned (.int .i64 (m.noteE id)) ∧ Hd w0 (Clock c (m.note id) :: R) w' := by
  obtain ⟨v, bs, hl, H1⟩ := Clock.opened H
  have hlen := hm.len
  rcases m.at?_cases id with ⟨hn, ho⟩ | ⟨i, p, rfl, hp, hi⟩
  · have hcall := clkOf_out H1 id ho
    have hr : m.noteE id = 1 := by simp [Clk.noteE, hn]
    have hr2 : m.note id = m := by simp [Clk.note, hn]
    unfold pp at hcall ⊢
    rw [hr, hr2]
    clear hr hr2 hn ho hl hm hlen
    go_enter Tryz.func32, Tryz.ntmps32
    go_wp2_with (go_at_call 57; refine hcall.mono ?_; rintro e w' ⟨rfl, rfl⟩)
    go_ret
    exact ⟨rfl, H⟩
  · obtain ⟨b, hb⟩ : ∃ b, bs[i]? = some b := ⟨bs[i]'(by have := lt_of_get? hi; omega), List.getElem?_eq_getElem _⟩
    have hcall := clkOf_in H1 (by omega) i b hb
    have hr : m.noteE i = 0 := by simp [Clk.noteE, hp]
    have hr2 : m.note i = ⟨m.now, m.l.set i { p with last := m.now, has := true }⟩ := by simp [Clk.note, hp]
    have H2 := (H1.b3.row_nth hb hi)
    have c0 := H1.rd 0
    have cp : ∀ k, w.cell? ⟨b, k, none⟩ = p.cells[k]? := H2.rd
    simp only [Pat.cells] at cp
    have fp : ∀ k, w.frozen? ⟨b, k, none⟩ = false := H2.fr
    have hset : Hd w0 (Clock c (m.note i) :: R) ((w.setCell ⟨b, 3, none⟩ (.int .i64 m.now)).setCell ⟨b, 4, none⟩ (.bool true)) := by
      rw [hr2]
      have H3 := ((Hd.set (c := p.cells) H2 3 (.int .i64 m.now)).set 4 (.bool true))
      have H4 : Hd w0 (all (List.zipWith patB bs (m.l.set i { p with last := m.now, has := true })) :: _) _ := Hd.row_back (b' := { p with last := m.now, has := true }) H3 hb hi
      have H5 := H4.b3.b3
      have e : (m.l.set i { p with last := m.now, has := true }).length = m.l.length := by simp
      rw [← e] at H5
      exact Clock.shut (m := ⟨m.now, m.l.set i { p with last := m.now, has := true }⟩) H5 (by simpa using hl)
    rw [hr]
    unfold pp at hcall ⊢
    clear hr hr2 hp hi hl hm hlen hb H2 H1
    go_enter Tryz.func32, Tryz.ntmps32
    go_wp2_with (go_at_call 57; refine hcall.mono ?_; rintro e w' ⟨rfl, rfl⟩)
    go_ret
    exact ⟨rfl, hset⟩
end
end Go.Proofs.YtogcikilphakmaaGreatDoor

/-
  Package release over the separation logic: times, Add. Every clock, every task.
-/
namespace Go.Proofs.YtogcikilphakmaaGreatDoor
open Go.RowKit Spl

/-- A task's value: the fields that release doesn't look at, and the three that it does. -/
def taskV (nm lv fr nd cd : Value) (p f g : Int) : Value := .agg #[nm, lv, fr, nd, cd, .int .i64 p, .int .i64 f, .int .i64 g]

def TimesTo (p f g : Int) (k : Nat) : Prop := k = 0 ∨ (k = 1 ∧ 0 ≤ p ∧ p ≤ 1048576) ∨ (k = 2 ∧ 0 ≤ p ∧ p ≤ 1048576 ∧ 0 ≤ f ∧ f ≤ 1048576) ∨ (k = 3 ∧ 0 ≤ p ∧ p ≤ 1048576 ∧ 0 ≤ f ∧ f ≤ 1048576 ∧ 0 ≤ g ∧ g ≤ 1048576)
theorem times_no {p f g : Int} (h : ¬ ((0 ≤ p ∧ p ≤ 1048576) ∧ (0 ≤ f ∧ f ≤ 1048576) ∧ (0 ≤ g ∧ g ≤ 1048576))) : timesOk p f g = false := by
  cases e : timesOk p f g with
  | false => rfl
  | true => have := timesOk_iff.1 e; exact absurd ⟨this.1, this.2.1, this.2.2.1⟩ h
theorem times_last {p f g : Int} (h1 : 0 ≤ p) (h2 : p ≤ 1048576) (h3 : 0 ≤ f) (h4 : f ≤ 1048576) (h5 : 0 ≤ g) (h6 : g ≤ 1048576) :
    timesOk p f g = ((decide (p = 0) || decide (g = 0)) && (decide (0 < p) == decide (0 < f))) := by
  simp [timesOk, tOk, h1, h2, h3, h4, h5, h6]
section
variable {w0 w : World} {R : List Pr} {c : Nat} {m : Clk}

set_option maxHeartbeats 400000 in
theorem relTimes (H : Hd w0 R w) (nm lv fr nd cd : Value) (p f g : Int) :
    Calls Tryz.prog 54 #[taskV nm lv fr nd cd p f g] w fun e w' => e = .returned (.bool (timesOk p f g)) ∧ Hd w0 R w' := by
  have i0 : ∀ w, (Instr.index 199 (.agg #[.int .i64 p, .int .i64 f, .int .i64 g]) (.int .i64 0)).run Tryz.prog w = .ok (.int .i64 p) w := fun _ => by kernel_rfl
  have i1 : ∀ w, (Instr.index 199 (.agg #[.int .i64 p, .int .i64 f, .int .i64 g]) (.int .i64 1)).run Tryz.prog w = .ok (.int .i64 f) w := fun _ => by kernel_rfl
  have i2 : ∀ w, (Instr.index 199 (.agg #[.int .i64 p, .int .i64 f, .int .i64 g]) (.int .i64 2)).run Tryz.prog w = .ok (.int .i64 g) w := fun _ => by kernel_rfl
  unfold taskV
  go_enter Tryz.func54, Tryz.ntmps54
  go_wp2
  have HA := H.alloc (.cells #[nm, lv, fr, nd, cd, .int .i64 p, .int .i64 f, .int .i64 g] 33)
  go_loop [12] (fun i => ∃ k : Nat, i = .int .i64 k ∧ TimesTo p f g k) (fun i => 3 - (intOf i).toNat)
  case atStart => exact ⟨0, rfl, .inl rfl⟩
  case round =>
    obtain ⟨k, rfl, hk⟩ := hrel
    rcases hk with rfl | ⟨rfl, h1, h2⟩ | ⟨rfl, h1, h2, h3, h4⟩ | ⟨rfl, h1, h2, h3, h4, h5, h6⟩
    · go_wp2
      all_goals first
        | (go_round
           case rel => exact ⟨1, rfl, .inr (.inl ⟨rfl, by omega, by omega⟩)⟩
           case measure => simp [intOf])
        | (go_ret; exact ⟨by rw [times_no (by omega)]; rfl, HA.tail⟩)
    · go_wp2
      all_goals first
        | (go_round
           case rel => exact ⟨2, rfl, .inr (.inr (.inl ⟨rfl, h1, h2, by omega, by omega⟩))⟩
           case measure => simp [intOf])
        | (go_ret; exact ⟨by rw [times_no (by omega)]; rfl, HA.tail⟩)
    · go_wp2
      all_goals first
        | (go_round
           case rel => exact ⟨3, rfl, .inr (.inr (.inr ⟨rfl, h1, h2, h3, h4, by omega, by omega⟩))⟩
           case measure => simp [intOf])
        | (go_ret; exact ⟨by rw [times_no (by omega)]; rfl, HA.tail⟩)
    · have hV := times_last h1 h2 h3 h4 h5 h6
      by_cases e1 : p = 0
      · subst e1
        by_cases e3 : 0 < f
        · have hv : timesOk 0 f g = false := by rw [hV]; simp [e3]
          clear hV
          go_wp2
          go_ret
          exact ⟨by first | rfl | (rw [hv]; rfl), HA.tail⟩
        · have hv : timesOk 0 f g = true := by rw [hV]; simp [e3]
          clear hV
          go_wp2
          go_ret
          exact ⟨by first | rfl | (rw [hv]; rfl), HA.tail⟩
      · have e1' : (p == 0) = false := by simpa using e1
        have e2' : 0 < p := by omega
        by_cases e3 : g = 0
        · subst e3
          by_cases e4 : 0 < f
          · have hv : timesOk p f 0 = true := by rw [hV]; simp [e4, e2']
            clear hV
            go_wp2
            go_ret
            exact ⟨by first | rfl | (rw [hv]; rfl), HA.tail⟩
          · have hv : timesOk p f 0 = false := by rw [hV]; simp [e4, e2']
            clear hV
            go_wp2
            go_ret
            exact ⟨by first | rfl | (rw [hv]; rfl), HA.tail⟩
        · have e3' : (g == 0) = false := by simpa using e3
          have hv : timesOk p f g = false := by rw [hV]; simp [e1, e3]
          clear hV
          go_wp2
          go_ret
          exact ⟨by first | rfl | (rw [hv]; rfl), HA.tail⟩

theorem clkAdd (H : Hd w0 (Clock c m :: R) w) (hm : m.Ok) (nm : ByteArray) (lv fr : Int) (na : Option Addr) (nl nc : Nat) (cd : ByteArray) (p f g : Int) :
    Calls Tryz.prog 28 #[pp c, taskV (.string nm) (.int .i64 lv) (.int .i64 fr) (.slice na nl nc) (.string cd) p f g] w fun e w' =>
      e = .returned (.tuple #[.int .i64 (m.addN p f g), .int .i64 (m.addE p f g)]) ∧ Hd w0 (Clock c (m.add p f g) :: R) w' := by
  obtain ⟨v, bs, hl, H1⟩ := Clock.opened H
  have hlen := hm.len
  have HB := (H1.alloc (.cells #[.string nm, .int .i64 lv, .int .i64 fr, .slice na nl nc, .string cd, .int .i64 p, .int .i64 f, .int .i64 g] 33)).b2
  have hcall := patLen (o := 1) (HB.d2.d2.b3.b2) rfl
  unfold pp
  by_cases hf : m.full = true
  · have h1 : m.addN p f g = -1 := by simp [Clk.addN, hf]
    have h2 : m.addE p f g = 4 := by simp [Clk.addE, hf]
    have h3 : m.add p f g = m := by simp [Clk.add, hf]
    have h64 : 64 ≤ m.l.length := by simpa [Clk.full] using hf
    rw [h1, h2, h3]
    clear h1 h2 h3 hf
    unfold taskV
    go_enter Tryz.func28, Tryz.ntmps28
    go_wp2_with (go_at_call 53; refine hcall.mono ?_; rintro e w' ⟨rfl, rfl⟩)
    go_ret2
    exact ⟨rfl, Clock.shut HB.b2.tail hl⟩
  · have HC : Hd w0 (cel c 122 #[.int .i64 m.now, v] :: Slc 134 1 v m.l.length (bs.map pp) :: pt w.heap.size _ :: _) _ := HB.b3.b2
    have htimes := relTimes HC (.string nm) (.int .i64 lv) (.int .i64 fr) (.slice na nl nc) (.string cd) p f g
    have h64 : m.l.length < 64 := by simpa [Clk.full] using hf
    cases ht : timesOk p f g with
    | false =>
      have h1 : m.addN p f g = -1 := by simp [Clk.addN, hf, ht]
      have h2 : m.addE p f g = 1 := by simp [Clk.addE, hf, ht]
      have h3 : m.add p f g = m := by simp [Clk.add, hf, ht]
      rw [h1, h2, h3]
      rw [ht] at htimes
      clear h1 h2 h3 hf ht
      unfold taskV at htimes ⊢
      go_enter Tryz.func28, Tryz.ntmps28
      go_wp2_with (first | (go_at_call 53; refine hcall.mono ?_; rintro e w' ⟨rfl, rfl⟩) | (go_at_call 54; refine htimes.mono ?_; rintro e w1 ⟨rfl, H3⟩))
      go_ret2
      exact ⟨rfl, Clock.shut H3.b3.tail hl⟩
    | true =>
      have h1 : m.addN p f g = m.l.length := by simp [Clk.addN, hf, ht]
      have h2 : m.addE p f g = 0 := by simp [Clk.addE, hf, ht]
      have h3 : m.add p f g = ⟨m.now, m.l ++ [⟨p, g, m.now + f, 0, false⟩]⟩ := by simp [Clk.add, hf, ht]
      obtain ⟨t1, t2, t3, t4, t5⟩ := timesOk_iff.1 ht
      have n0 := hm.n0; have n1 := hm.n1
      rw [h1, h2, h3]
      rw [ht] at htimes
      clear h1 h2 h3 hf ht
      unfold taskV at htimes ⊢
      go_enter Tryz.func28, Tryz.ntmps28
      go_wp2_with (first | (go_at_call 53; refine hcall.mono ?_; rintro e w' ⟨rfl, rfl⟩; clear hcall) | (go_at_call 54; refine htimes.mono ?_; rintro e w1 ⟨rfl, H3⟩; clear htimes; have c1 := H3.rd 0; have c2 := H3.b3.rd))
      have HP := ((H3.alloc (.cells #[.int .i64 p, .int .i64 g, .int .i64 (m.now + f), .int .i64 0, .bool false] 138)).drew).d3
      have hs : IntKind.i64.wrap (m.now + f) = m.now + f := IntWalk.i64_in _ (by omega)
      go_region_held3 (fun w' => w'.cell? ⟨c, 0, none⟩ = some (.int .i64 m.now) ∧ w'.cell? ⟨w.heap.size, 5, none⟩ = some (.int .i64 p) ∧ w'.cell? ⟨w.heap.size, 6, none⟩ = some (.int .i64 f) ∧ w'.cell? ⟨w.heap.size, 7, none⟩ = some (.int .i64 g)) (go_keep)
        (first | (go_at_call 55; refine (patPush (o := 1) HP rfl (by omega) _).mono ?_; rintro e w2 ⟨rfl, v', H4⟩; have c3 := H4.rd 0; have c4 := H4.b4.rd))
      clear hs HP
      have hcall2 := patLen (o := 1) H4 rfl
      go_wp2_with (go_at_call 53; refine hcall2.mono ?_; rintro e w' ⟨rfl, rfl⟩)
      go_ret2
      refine ⟨by simp, ?_⟩
      have H5 : Hd w0 (patB w1.heap.size ⟨p, g, m.now + f, 0, false⟩ :: all (List.zipWith patB bs m.l) :: _) _ := H4.b4.tail.b4.b4
      have H6 := (H5.row_snoc hl).d3
      have e1 : (m.l ++ [(⟨p, g, m.now + f, 0, false⟩ : Pat)]).length = m.l.length + 1 := by simp
      have e2 : bs.map pp ++ [pp w1.heap.size] = (bs ++ [w1.heap.size]).map pp := by simp
      rw [e2, ← e1] at H6
      exact Clock.shut (m := ⟨m.now, m.l ++ [⟨p, g, m.now + f, 0, false⟩]⟩) H6 (by simp [hl])
end
end Go.Proofs.YtogcikilphakmaaGreatDoor
