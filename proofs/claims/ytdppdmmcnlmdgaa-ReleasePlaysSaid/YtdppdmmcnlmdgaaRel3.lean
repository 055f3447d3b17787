/-
  Package release over the separation logic: Ready, Note, Last, Next answer as the plain functions say. Every clock, every number.
-/
import Derived.Test.YtdppdmmcnlmdgaaRel2
namespace Go.Proofs.Ytdppdmmcnlmdgaa
open Go.RowKit Spl

theorem Clk.at?_cases (m : Clk) (id : Int) : (m.at? id = none ∧ (id < 0 ∨ m.l.length ≤ id)) ∨ ∃ (i : Nat) (p : Pat), id = i ∧ m.at? id = some p ∧ m.l[i]? = some p := by
  unfold Clk.at?
  by_cases h : 0 ≤ id
  · rw [if_pos h]
    cases e : m.l[id.toNat]? with
    | none => exact .inl ⟨rfl, .inr (by have := List.getElem?_eq_none_iff.1 e; omega)⟩
    | some p => exact .inr ⟨id.toNat, p, by omega, rfl, e⟩
  · rw [if_neg h]
    exact .inl ⟨rfl, .inl (by omega)⟩

section
variable {w0 w : World} {R : List Pr} {c : Nat} {m : Clk}

theorem clkReady (H : Hd w0 (Clock c m :: R) w) (hm : m.Ok) (id : Int) :
    Calls Try.prog 13 #[pp c, .int .i64 id] w fun e w' => e = .returned (.int .i64 (m.ready id)) ∧ Hd w0 (Clock c m :: R) w' := by
  obtain ⟨v, bs, hl, H1⟩ := Clock.opened H
  have hlen := hm.len
  rcases m.at?_cases id with ⟨hn, ho⟩ | ⟨i, p, rfl, hp, hi⟩
  · have hcall := clkOf_out H1 id ho
    have hr : m.ready id = 1 := by simp [Clk.ready, hn]
    unfold pp at hcall ⊢
    rw [hr]
    clear hr hn ho hl hm hlen
    go_enter Try.func13, Try.ntmps13
    go_wp2_with (go_at_call 31; refine hcall.mono ?_; rintro e w' ⟨rfl, rfl⟩)
    go_ret
    exact ⟨rfl, H⟩
  · obtain ⟨b, hb⟩ : ∃ b, bs[i]? = some b := ⟨bs[i]'(by have := lt_of_get? hi; omega), List.getElem?_eq_getElem _⟩
    have hcall := clkOf_in H1 (by omega) i b hb
    have hr : m.ready i = Clk.readyP m.now p := by simp [Clk.ready, hp]
    have hok := hm.pat p (Clk.at?_mem hp)
    have H2 := (H1.b3.row_nth hb hi)
    have c0 := H1.rd 0
    have cp : ∀ k, w.cell? ⟨b, k, none⟩ = p.cells[k]? := H2.rd
    simp only [Pat.cells] at cp
    have n0 := hm.n0; have n1 := hm.n1; have l0 := hok.l0; have l1 := hok.l1; have p0 := hok.p0
    rw [hr]
    unfold pp at hcall ⊢
    clear hr hp hi hl hm hlen hb H2 H1 hok
    by_cases h1 : 0 < p.period
    · have e : Clk.readyP m.now p = 40 := by simp [Clk.readyP, h1]
      rw [e]; clear e
      go_enter Try.func13, Try.ntmps13
      go_wp2_with (go_at_call 31; refine hcall.mono ?_; rintro e w' ⟨rfl, rfl⟩)
      go_ret
      exact ⟨rfl, H⟩
    · cases hh : p.has with
      | false =>
        have e : Clk.readyP m.now p = 0 := by simp [Clk.readyP, h1, hh]
        rw [e]; clear e
        rw [hh] at cp
        go_enter Try.func13, Try.ntmps13
        go_wp2_with (first | (go_at_call 31; refine hcall.mono ?_; rintro e w' ⟨rfl, rfl⟩) | go_quiet (fail))
        go_ret
        exact ⟨rfl, H.drewN _⟩
      | true =>
        rw [hh] at cp
        by_cases h2 : m.now - p.last < p.gap
        · have e : Clk.readyP m.now p = 41 := by simp [Clk.readyP, h1, hh, h2]
          rw [e]; clear e
          have hd : decide (m.now - p.last < p.gap) = true := by simpa using h2
          go_enter Try.func13, Try.ntmps13
          go_wp2_with (first | (go_at_call 31; refine hcall.mono ?_; rintro e w' ⟨rfl, rfl⟩) | go_quiet (fail))
          go_ret
          exact ⟨rfl, H.drewN _⟩
        · have e : Clk.readyP m.now p = 0 := by simp [Clk.readyP, h1, hh, h2]
          rw [e]; clear e
          have hd : decide (m.now - p.last < p.gap) = false := by simpa using h2
          go_enter Try.func13, Try.ntmps13
          go_wp2_with (first | (go_at_call 31; refine hcall.mono ?_; rintro e w' ⟨rfl, rfl⟩) | go_quiet (fail))
          go_ret
          exact ⟨rfl, H.drewN _⟩

theorem clkNote (H : Hd w0 (Clock c m :: R) w) (hm : m.Ok) (id : Int) :
    Calls Try.prog 14 #[pp c, .int .i64 id] w fun e w' => e = .returned (.int .i64 (m.noteE id)) ∧ Hd w0 (Clock c (m.note id) :: R) w' := by
  obtain ⟨v, bs, hl, H1⟩ := Clock.opened H
  have hlen := hm.len
  rcases m.at?_cases id with ⟨hn, ho⟩ | ⟨i, p, rfl, hp, hi⟩
  · have hcall := clkOf_out H1 id ho
    have hr : m.noteE id = 1 := by simp [Clk.noteE, hn]
    have hr2 : m.note id = m := by simp [Clk.note, hn]
    unfold pp at hcall ⊢
    rw [hr, hr2]
    clear hr hr2 hn ho hl hm hlen
    go_enter Try.func14, Try.ntmps14
    go_wp2_with (go_at_call 31; refine hcall.mono ?_; rintro e w' ⟨rfl, rfl⟩)
    go_ret
    exact ⟨rfl, H⟩
  · obtain ⟨b, hb⟩ : ∃ b, bs[i]? = some b := ⟨bs[i]'(by have := lt_of_get? hi; omega), List.getElem?_eq_getElem _⟩
    have hcall := clkOf_in H1 (by omega) i b hb
    have hr : m.noteE i = 0 := by simp [Clk.noteE, hp]
    have hr2 : m.note i = ⟨m.now, m.l.set i { p with last := m.now, has := true }⟩ := by simp [Clk.note, hp]
    have H2 := (H1.b3.row_nth hb hi)
    have c0 := H1.rd 0
    have cp : ∀ k, w.cell? ⟨b, k, none⟩ = p.cells[k]? := H2.rd
    simp only [Pat.cells] at cp
    have fp : ∀ k, w.frozen? ⟨b, k, none⟩ = false := H2.fr
    have hset : Hd w0 (Clock c (m.note i) :: R) ((w.setCell ⟨b, 3, none⟩ (.int .i64 m.now)).setCell ⟨b, 4, none⟩ (.bool true)) := by
      rw [hr2]
      have H3 := ((Hd.set (c := p.cells) H2 3 (.int .i64 m.now)).set 4 (.bool true))
      have H4 : Hd w0 (all (List.zipWith patB bs (m.l.set i { p with last := m.now, has := true })) :: _) _ := Hd.row_back (b' := { p with last := m.now, has := true }) H3 hb hi
      have H5 := H4.b3.b3
      have e : (m.l.set i { p with last := m.now, has := true }).length = m.l.length := by simp
      rw [← e] at H5
      exact Clock.shut (m := ⟨m.now, m.l.set i { p with last := m.now, has := true }⟩) H5 (by simpa using hl)
    rw [hr]
    unfold pp at hcall ⊢
    clear hr hr2 hp hi hl hm hlen hb H2 H1
    go_enter Try.func14, Try.ntmps14
    go_wp2_with (go_at_call 31; refine hcall.mono ?_; rintro e w' ⟨rfl, rfl⟩)
    go_ret
    exact ⟨rfl, hset⟩

theorem clkLast (H : Hd w0 (Clock c m :: R) w) (hm : m.Ok) (id : Int) :
    Calls Try.prog 15 #[pp c, .int .i64 id] w fun e w' => e = .returned (.tuple #[.int .i64 (m.last id).1, .bool (m.last id).2]) ∧ w = w' := by
  obtain ⟨v, bs, hl, H1⟩ := Clock.opened H
  have hlen := hm.len
  rcases m.at?_cases id with ⟨hn, ho⟩ | ⟨i, p, rfl, hp, hi⟩
  · have hcall := clkOf_out H1 id ho
    have hr : m.last id = (0, false) := by simp [Clk.last, hn]
    unfold pp at hcall ⊢
    rw [hr]
    clear hr hn ho hl hm hlen H H1
    go_enter Try.func15, Try.ntmps15
    go_wp2_with (go_at_call 31; refine hcall.mono ?_; rintro e w' ⟨rfl, rfl⟩)
    go_ret2
    exact ⟨rfl, rfl⟩
  · obtain ⟨b, hb⟩ : ∃ b, bs[i]? = some b := ⟨bs[i]'(by have := lt_of_get? hi; omega), List.getElem?_eq_getElem _⟩
    have hcall := clkOf_in H1 (by omega) i b hb
    have hr : m.last i = Clk.lastP p := by simp [Clk.last, hp]
    have H2 := (H1.b3.row_nth hb hi)
    have cp : ∀ k, w.cell? ⟨b, k, none⟩ = p.cells[k]? := H2.rd
    simp only [Pat.cells] at cp
    rw [hr]
    unfold pp at hcall ⊢
    clear hr hp hi hl hm hlen hb H2 H1 H
    cases hh : p.has with
    | false =>
      have e : Clk.lastP p = (0, false) := by simp [Clk.lastP, hh]
      rw [e]; clear e
      rw [hh] at cp
      go_enter Try.func15, Try.ntmps15
      go_wp2_with (go_at_call 31; refine hcall.mono ?_; rintro e w' ⟨rfl, rfl⟩)
      go_ret2
      exact ⟨rfl, rfl⟩
    | true =>
      have e : Clk.lastP p = (p.last, true) := by simp [Clk.lastP, hh]
      rw [e]; clear e
      rw [hh] at cp
      go_enter Try.func15, Try.ntmps15
      go_wp2_with (go_at_call 31; refine hcall.mono ?_; rintro e w' ⟨rfl, rfl⟩)
      go_ret2
      exact ⟨rfl, rfl⟩

theorem clkNext (H : Hd w0 (Clock c m :: R) w) (hm : m.Ok) (id : Int) :
    Calls Try.prog 16 #[pp c, .int .i64 id] w fun e w' => e = .returned (.tuple #[.int .i64 (m.next id).1, .bool (m.next id).2]) ∧ w = w' := by
  obtain ⟨v, bs, hl, H1⟩ := Clock.opened H
  have hlen := hm.len
  rcases m.at?_cases id with ⟨hn, ho⟩ | ⟨i, p, rfl, hp, hi⟩
  · have hcall := clkOf_out H1 id ho
    have hr : m.next id = (0, false) := by simp [Clk.next, hn]
    unfold pp at hcall ⊢
    rw [hr]
    clear hr hn ho hl hm hlen H H1
    go_enter Try.func16, Try.ntmps16
    go_wp2_with (go_at_call 31; refine hcall.mono ?_; rintro e w' ⟨rfl, rfl⟩)
    go_ret2
    exact ⟨rfl, rfl⟩
  · obtain ⟨b, hb⟩ : ∃ b, bs[i]? = some b := ⟨bs[i]'(by have := lt_of_get? hi; omega), List.getElem?_eq_getElem _⟩
    have hcall := clkOf_in H1 (by omega) i b hb
    have hr : m.next i = Clk.nextP p := by simp [Clk.next, hp]
    have H2 := (H1.b3.row_nth hb hi)
    have cp : ∀ k, w.cell? ⟨b, k, none⟩ = p.cells[k]? := H2.rd
    simp only [Pat.cells] at cp
    rw [hr]
    unfold pp at hcall ⊢
    clear hr hp hi hl hm hlen hb H2 H1 H
    by_cases hh : p.period = 0
    · have e : Clk.nextP p = (0, false) := by simp [Clk.nextP, hh]
      rw [e]; clear e
      rw [hh] at cp
      clear hh
      go_enter Try.func16, Try.ntmps16
      go_wp2_with (go_at_call 31; refine hcall.mono ?_; rintro e w' ⟨rfl, rfl⟩)
      go_ret2
      exact ⟨rfl, rfl⟩
    · have e : Clk.nextP p = (p.due, true) := by simp [Clk.nextP, hh]
      rw [e]; clear e
      have hd : (p.period == 0) = false := by simpa using hh
      go_enter Try.func16, Try.ntmps16
      go_wp2_with (go_at_call 31; refine hcall.mono ?_; rintro e w' ⟨rfl, rfl⟩)
      go_ret2
      exact ⟨rfl, rfl⟩
end
end Go.Proofs.Ytdppdmmcnlmdgaa
