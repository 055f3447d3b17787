/-
  ReleaseApart walked: two clocks with one task alike; whatever else is done to the second.
-/
import Derived.Test.YtdppdmmcnlmdgaaRel7
namespace Go.Proofs.Ytdppdmmcnlmdgaa
open Go.RowKit Spl

/-- The first clock has one task, the second has the same one first. -/
structure TwoI (mc md : Clk) (now : Int) (p : Pat) : Prop where
  okc : mc.Ok
  okd : md.Ok
  c_ : mc = ⟨now, [p]⟩
  nd : md.now = now
  d_ : ∃ rest, md.l = p :: rest
theorem head_add {m : Clk} {p : Pat} (h : ∃ r, m.l = p :: r) (a f g : Int) : (m.add a f g).now = m.now ∧ ∃ r, (m.add a f g).l = p :: r := by
  obtain ⟨r, hr⟩ := h
  unfold Clk.add; split
  · exact ⟨rfl, r, hr⟩
  · split
    · exact ⟨rfl, _, by show m.l ++ _ = _; rw [hr]; rfl⟩
    · exact ⟨rfl, r, hr⟩
theorem TwoI.add {mc md : Clk} {now : Int} {p : Pat} (h : TwoI mc md now p) (a f g : Int) : TwoI mc (md.add a f g) now p :=
  ⟨h.okc, h.okd.add a f g, h.c_, (head_add h.d_ a f g).1.trans h.nd, (head_add h.d_ a f g).2⟩
theorem TwoI.at0c {mc md : Clk} {now : Int} {p : Pat} (h : TwoI mc md now p) : mc.at? 0 = some p := by rw [h.c_]; rfl
theorem TwoI.at0d {mc md : Clk} {now : Int} {p : Pat} (h : TwoI mc md now p) : md.at? 0 = some p := by
  obtain ⟨r, hr⟩ := h.d_
  simp [Clk.at?, hr]
theorem TwoI.note0 {mc md : Clk} {now : Int} {p : Pat} (h : TwoI mc md now p) : TwoI (mc.note 0) (md.note 0) now { p with last := now, has := true } := by
  obtain ⟨r, hr⟩ := h.d_
  have ec := h.at0c
  have ed := h.at0d
  refine ⟨h.okc.note 0, h.okd.note 0, ?_, ?_, r, ?_⟩
  · simp only [Clk.note, ec]; rw [h.c_]; rfl
  · simp only [Clk.note, ed]; exact h.nd
  · simp only [Clk.note, ed, hr, h.nd]; rfl
theorem TwoI.noteN {mc md : Clk} {now : Int} {p : Pat} (h : TwoI mc md now p) {n : Int} (hn : n ≠ 0) : TwoI mc (md.note n) now p := by
  obtain ⟨r, hr⟩ := h.d_
  refine ⟨h.okc, h.okd.note n, h.c_, ?_, ?_⟩
  · unfold Clk.note; split
    · exact h.nd
    · exact h.nd
  · unfold Clk.note; split
    · exact ⟨r, hr⟩
    · rename_i q hq
      have h0 : 0 ≤ n := by
        unfold Clk.at? at hq
        by_cases h0 : 0 ≤ n
        · exact h0
        · rw [if_neg h0] at hq; cases hq
      obtain ⟨j, hj⟩ : ∃ j, n.toNat = j + 1 := ⟨n.toNat - 1, by omega⟩
      exact ⟨_, by show md.l.set n.toNat _ = _; rw [hr, hj]; rfl⟩
theorem TwoI.tick {mc md : Clk} {now : Int} {p : Pat} (h : TwoI mc md now p) (hn : now < 1000000) : TwoI mc.tick md.tick (now + 1) (p.tick (now + 1)) ∧ mc.tickE = 0 ∧ md.tickE = 0 := by
  obtain ⟨r, hr⟩ := h.d_
  have h0 : ¬ 1099511627776 ≤ now := by omega
  have h1 : ¬ 1099511627776 ≤ md.now := by rw [h.nd]; exact h0
  have ed : md.tick = ⟨md.now + 1, md.l.map (Pat.tick (md.now + 1))⟩ := by simp [Clk.tick, Clk.atEnd, h1]
  refine ⟨⟨h.okc.tick, h.okd.tick, ?_, ?_, r.map (Pat.tick (now + 1)), ?_⟩, ?_, ?_⟩
  · rw [h.c_]; simp [Clk.tick, Clk.atEnd, h0]
  · rw [ed]; show md.now + 1 = _; rw [h.nd]
  · rw [ed]; show md.l.map _ = _; rw [hr, h.nd]; rfl
  · rw [h.c_]; simp [Clk.tickE, Clk.atEnd, h0]
  · simp [Clk.tickE, Clk.atEnd, h1]
theorem TwoI.due1 {mc md : Clk} {now : Int} {p : Pat} (h : TwoI mc md now p) (hn : now < 1000000) (hd : p.isDue (now + 1) = true) : mc.tickL = [0] ∧ ∃ rs, md.tickL = 0 :: rs ∧ rs.length ≤ 64 := by
  obtain ⟨r, hr⟩ := h.d_
  have h0 : ¬ 1099511627776 ≤ now := by omega
  have h1 : ¬ 1099511627776 ≤ md.now := by rw [h.nd]; exact h0
  have hlen := h.okd.len
  rw [hr] at hlen
  simp only [List.length_cons] at hlen
  refine ⟨by rw [h.c_]; simp [Clk.tickL, Clk.atEnd, h0, dueIds, hd], dueIds (now + 1) 1 r, ?_, ?_⟩
  · have : md.tickL = dueIds (md.now + 1) 0 md.l := by simp [Clk.tickL, Clk.atEnd, h1]
    rw [this, hr, h.nd]; simp [dueIds, hd]
  · have := dueIds_length (now + 1) r 1; omega
theorem TwoI.due0 {mc md : Clk} {now : Int} {p : Pat} (h : TwoI mc md now p) (hn : now < 1000000) (hd : p.isDue (now + 1) = false) : mc.tickL = [] ∧ ∃ rs, md.tickL = rs ∧ rs.length ≤ 64 ∧ ∀ x ∈ rs, 1 ≤ x := by
  obtain ⟨r, hr⟩ := h.d_
  have h0 : ¬ 1099511627776 ≤ now := by omega
  have h1 : ¬ 1099511627776 ≤ md.now := by rw [h.nd]; exact h0
  have hlen := h.okd.len
  rw [hr] at hlen
  simp only [List.length_cons] at hlen
  refine ⟨by rw [h.c_]; simp [Clk.tickL, Clk.atEnd, h0, dueIds, hd], dueIds (now + 1) 1 r, ?_, ?_, ?_⟩
  · have : md.tickL = dueIds (md.now + 1) 0 md.l := by simp [Clk.tickL, Clk.atEnd, h1]
    rw [this, hr, h.nd]; simp [dueIds, hd]
  · have := dueIds_length (now + 1) r 1; omega
  · intro x hx; have := dueIds_ge _ _ _ x hx; omega
theorem TwoI.last_ {mc md : Clk} {now : Int} {p : Pat} (h : TwoI mc md now p) : ∃ r b, mc.last 0 = (r, b) ∧ md.last 0 = (r, b) := ⟨(Clk.lastP p).1, (Clk.lastP p).2, by simp [Clk.last, h.at0c], by simp [Clk.last, h.at0d]⟩
theorem TwoI.next_ {mc md : Clk} {now : Int} {p : Pat} (h : TwoI mc md now p) : ∃ r b, mc.next 0 = (r, b) ∧ md.next 0 = (r, b) := ⟨(Clk.nextP p).1, (Clk.nextP p).2, by simp [Clk.next, h.at0c], by simp [Clk.next, h.at0d]⟩
theorem TwoI.ready_ {mc md : Clk} {now : Int} {p : Pat} (h : TwoI mc md now p) : ∃ r, mc.ready 0 = r ∧ md.ready 0 = r := ⟨Clk.readyP now p, by simp only [Clk.ready, h.at0c]; rw [h.c_], by simp only [Clk.ready, h.at0d, h.nd]⟩
theorem TwoI.now_ {mc md : Clk} {now : Int} {p : Pat} (h : TwoI mc md now p) : mc.now = now ∧ md.now = now := ⟨by rw [h.c_], h.nd⟩
theorem TwoI.begin {a f g : Int} (ht : timesOk a f g = true) : TwoI (Clk.add ⟨0, []⟩ a f g) (Clk.add ⟨0, []⟩ a f g) 0 ⟨a, g, f, 0, false⟩ ∧ Clk.addN ⟨0, []⟩ a f g = 0 ∧ Clk.addE ⟨0, []⟩ a f g = 0 := by
  have e : Clk.add ⟨0, []⟩ a f g = ⟨0, [⟨a, g, f, 0, false⟩]⟩ := by simp [Clk.add, Clk.full, ht]
  have ok := Clk.Ok.new.add a f g
  refine ⟨⟨ok, ok, e, by rw [e], [], by rw [e]⟩, ?_, ?_⟩
  · simp [Clk.addN, Clk.full, ht]
  · simp [Clk.addE, Clk.full, ht]
theorem begin_no {a f g : Int} (ht : timesOk a f g = false) : Clk.add ⟨0, []⟩ a f g = ⟨0, []⟩ ∧ Clk.addN ⟨0, []⟩ a f g = -1 ∧ Clk.addE ⟨0, []⟩ a f g = 1 := by
  refine ⟨?_, ?_, ?_⟩
  · simp [Clk.add, Clk.full, ht]
  · simp [Clk.addN, Clk.full, ht]
  · simp [Clk.addE, Clk.full, ht]

set_option maxRecDepth 100000 in
set_option maxHeartbeats 8000000 in
theorem apart_spec (W : World) (x : OpR) (vs : Value) (ops : List OpR) (hS : RdO W vs ops) :
    Calls Try.prog 7 #[.agg x.cells.toArray, vs] W fun e w' => e = .returned (.bool true) ∧ Hd W [whole W] w' := by
  have H0 := (Hd.start W).alloc (.cells x.cells.toArray 50)
  simp only [OpR.cells, TaskR.cells] at H0 ⊢
  go_enter Try.func7, Try.ntmps7
  go_wp2_with fail
  refine (clkNew H0).mono ?_
  rintro e w1 ⟨c, rfl, H1⟩
  go_wp2_with fail
  refine (clkNew H1).mono ?_
  rintro e w2 ⟨d, rfl, H2⟩
  unfold pp
  clear H0 H1
  have r2 := H2.b3.rd
  cases ht : timesOk x.t.p x.t.f x.t.g with
  | false =>
    obtain ⟨e1, e2, e3⟩ := begin_no ht
    go_wp2_with fail
    refine (clkAdd' H2.b2 Clk.Ok.new _ _ _ _ _ _ _ _ _ _ e1 e2 e3).mono ?_
    rintro e w3 ⟨rfl, H3⟩
    have r3 := H3.b3.rd
    go_wp2_with fail
    refine (clkAdd' H3.b2 Clk.Ok.new _ _ _ _ _ _ _ _ _ _ e1 e2 e3).mono ?_
    rintro e w4 ⟨rfl, H4⟩
    go_wp2_with fail
    refine (runs_spec H4).mono ?_
    rintro e w5 ⟨rfl, H5⟩
    go_wp2_with fail
    go_ret
    exact ⟨rfl, H5.tail.tail.tail⟩
  | true =>
    obtain ⟨hB, e2, e3⟩ := TwoI.begin ht
    go_wp2_with fail
    refine (clkAdd' H2.b2 Clk.Ok.new _ _ _ _ _ _ _ _ _ _ rfl e2 e3).mono ?_
    rintro e w3 ⟨rfl, H3⟩
    have r3 := H3.b3.rd
    go_wp2_with fail
    refine (clkAdd' H3.b2 Clk.Ok.new _ _ _ _ _ _ _ _ _ _ rfl e2 e3).mono ?_
    rintro e w4 ⟨rfl, H4⟩
    clear H2 H3 r2 r3 e2 e3
    go_wp2_with fail
    refine (fewSpec (hS.keep H4.b4.below) 100 100 rfl (by decide)).mono ?_
    rintro e w5 ⟨vs', rfl, hS4, rfl⟩
    have hS5 := hS4 W hS
    have hS6 := hS5
    obtain ⟨A, cap, rfl, hSl, hSc, _⟩ := hS6
    clear hS4
    have hs100 : (ops.take 100).length ≤ 100 := by simp; omega
    generalize ops.take 100 = sc at hS5 hSl hSc hs100 ⊢
    have HL : Hd W [Clock c (Clk.add ⟨0, []⟩ x.t.p x.t.f x.t.g), Clock d (Clk.add ⟨0, []⟩ x.t.p x.t.f x.t.g), whole W] w4 := H4.b2.b3.tail
    clear H4
    go_wp2_with fail
    go_loopw [11] (fun vi wr => ∃ (k : Nat) (now : Int) (p : Pat) (mc md : Clk), k ≤ sc.length ∧ vi = .int .i64 k ∧ 0 ≤ now ∧ now ≤ k ∧ TwoI mc md now p ∧ Hd W [Clock c mc, Clock d md, whole W] wr) (fun vi _ => sc.length - (intOf vi).toNat)
    case atStart => exact ⟨0, 0, _, _, _, Nat.zero_le _, rfl, by decide, by decide, hB, HL⟩
    case round =>
      obtain ⟨k, now, p, mc, md, hk, rfl, hn0, hn1, hT, HK⟩ := hrel
      clear HL hB
      by_cases hks : k < sc.length
      · obtain ⟨y, hy⟩ : ∃ y, sc[k]? = some y := ⟨sc[k], List.getElem?_eq_getElem hks⟩
        obtain ⟨b, o, rfl, y0, y1, y2, y3, y4, y5, y6, y7, y8, y9⟩ := (hS5.keep HK.b3.below).at_ hy
        by_cases hk0 : y.kd = 0
        · have kd0 : (y.kd == 0) = true := by simp [hk0]
          clear hk0
          have HB : Hd W [Clock c mc, Clock d md, whole W] (wr.alloc (.cells #[.int .i64 y.kd, .int .i64 y.n, .string y.t.nm, .int .i64 y.t.lv, .int .i64 y.t.fr, .slice y.t.na y.t.nl y.t.nc, .string y.t.cd, .int .i64 y.t.p, .int .i64 y.t.f, .int .i64 y.t.g] 50)) := (HK.alloc _).tail
          go_wp2_with fail
          refine (clkAdd' HB.b2 hT.okd _ _ _ _ _ _ _ _ _ _ rfl rfl rfl).mono ?_
          rintro e u0 ⟨rfl, HA0⟩
          have hTA := hT.add y.t.p y.t.f y.t.g

          obtain ⟨rl, bl, hl1, hl2⟩ := (hTA).last_
          obtain ⟨rn, bn, hx1, hx2⟩ := (hTA).next_
          obtain ⟨rr, hr1, hr2⟩ := (hTA).ready_
          obtain ⟨hw1, hw2⟩ := (hTA).now_
          have hl2' := Lib.hid hl2
          have hx1' := Lib.hid hx1
          have hx2' := Lib.hid hx2
          have hr1' := Lib.hid hr1
          have hr2' := Lib.hid hr2
          have hw1' := Lib.hid hw1
          have hw2' := Lib.hid hw2
          clear hl2 hx1 hx2 hr1 hr2 hw1 hw2
          go_wp2_with fail
          refine (clkLast' (id := 0) HA0.b2 (hTA).okc hl1).mono ?_
          rintro e q1 ⟨rfl, rfl⟩
          clear hl1
          go_wp2_with fail
          refine (clkLast' (id := 0) (HA0.b2).b2 (hTA).okd hl2'.out).mono ?_
          rintro e q2 ⟨rfl, rfl⟩
          go_wp2_with fail
          refine (clkNext' (id := 0) HA0.b2 (hTA).okc hx1'.out).mono ?_
          rintro e q3 ⟨rfl, rfl⟩
          go_wp2_with fail
          refine (clkNext' (id := 0) (HA0.b2).b2 (hTA).okd hx2'.out).mono ?_
          rintro e q4 ⟨rfl, rfl⟩
          go_wp2_with fail
          refine (clkReady' (id := 0) HA0.b2 (hTA).okc hr1'.out).mono ?_
          rintro e q5 ⟨rfl, HR1⟩
          go_wp2_with fail
          refine (clkReady' (id := 0) HR1.b2 (hTA).okd hr2'.out).mono ?_
          rintro e q6 ⟨rfl, HR2⟩
          go_wp2_with fail
          refine (clkNow' HR2.b2).mono ?_
          rintro e q7 ⟨rfl, rfl⟩
          rw [hw1'.out]
          go_wp2_with fail
          refine (clkNow' HR2).mono ?_
          rintro e q8 ⟨rfl, rfl⟩
          rw [hw2'.out]
          go_wp2_with fail
          go_roundw
          case rel => exact ⟨k + 1, now, _, _, _, by omega, by go_num, by omega, by omega, hTA, HR2.b2⟩
          case measure => simp [intOf]; omega
        · have kd0 : (y.kd == 0) = false := by simpa using hk0
          clear hk0
          by_cases hk1 : y.kd = 1
          · have kd1 : (y.kd == 1) = true := by simp [hk1]
            clear hk1
            have HB : Hd W [Clock c mc, Clock d md, whole W] (wr.alloc (.cells #[.int .i64 y.kd, .int .i64 y.n, .string y.t.nm, .int .i64 y.t.lv, .int .i64 y.t.fr, .slice y.t.na y.t.nl y.t.nc, .string y.t.cd, .int .i64 y.t.p, .int .i64 y.t.f, .int .i64 y.t.g] 50)) := (HK.alloc _).tail
            obtain ⟨hTt, hE1, hE2⟩ := hT.tick (by omega)
            cases hdue : p.isDue (now + 1) with
            | true =>
              obtain ⟨hL1, rs, hL2, hrl⟩ := hT.due1 (by omega) hdue
              go_wp2_with fail
              refine (clkTick' HB hT.okc rfl hL1 hE1).mono ?_
              rintro e z1 ⟨a1, rfl, HA⟩
              go_wp2_with fail
              refine (clkTick' HA.b3 hT.okd rfl hL2 hE2).mono ?_
              rintro e z2 ⟨a2, rfl, HD⟩
              obtain ⟨g2, c2, hv2, HG⟩ := HD.slc_at (by simp)
              injection hv2 with hv2 hv3 hv4
              subst hv2 hv4
              clear hv3
              have k0 := HG.slcC_rd (j := 0) (u := .int .i64 0) rfl
              have q1 : Rds z2 (.slice a1 1 1) (ints [0]) := Rds.of_slc (xs := ints [0]) HD.b3 (by decide)
              have q2 : Rds z2 (.slice (some ⟨g2, 0, none⟩) 1 (rs.length + 1)) (ints [0]) := ⟨_, _, rfl, by decide, fun _ => ⟨g2, 0, rfl, fun j u hj => by
                have hj0 : j = 0 := by have := lt_of_get? hj; simp [ints] at this; exact this
                subst hj0
                simp [ints] at hj
                subst hj
                exact k0⟩⟩
              have hE := Lib.hid (And.intro hE1 (And.intro hE2 (And.intro hL1 hL2)))
              have hdd := Lib.hid hdue
              clear hE1 hE2 hL1 hL2 hdue
              go_wp2_with fail
              refine (sameInt q1 q2).mono ?_
              rintro e z3 ⟨rfl, nz, rfl⟩
              have HZ : Hd W [Clock c mc.tick, Clock d md.tick, whole W] (z2.drewN nz) := (HD.tail.b2.tail.b2).drewN nz
              obtain ⟨rl, bl, hl1, hl2⟩ := (hTt).last_
              obtain ⟨rn, bn, hx1, hx2⟩ := (hTt).next_
              obtain ⟨rr, hr1, hr2⟩ := (hTt).ready_
              obtain ⟨hw1, hw2⟩ := (hTt).now_
              have hl2' := Lib.hid hl2
              have hx1' := Lib.hid hx1
              have hx2' := Lib.hid hx2
              have hr1' := Lib.hid hr1
              have hr2' := Lib.hid hr2
              have hw1' := Lib.hid hw1
              have hw2' := Lib.hid hw2
              clear hl2 hx1 hx2 hr1 hr2 hw1 hw2
              go_wp2_with fail
              refine (clkLast' (id := 0) HZ (hTt).okc hl1).mono ?_
              rintro e q1 ⟨rfl, rfl⟩
              clear hl1
              go_wp2_with fail
              refine (clkLast' (id := 0) (HZ).b2 (hTt).okd hl2'.out).mono ?_
              rintro e q2 ⟨rfl, rfl⟩
              go_wp2_with fail
              refine (clkNext' (id := 0) HZ (hTt).okc hx1'.out).mono ?_
              rintro e q3 ⟨rfl, rfl⟩
              go_wp2_with fail
              refine (clkNext' (id := 0) (HZ).b2 (hTt).okd hx2'.out).mono ?_
              rintro e q4 ⟨rfl, rfl⟩
              go_wp2_with fail
              refine (clkReady' (id := 0) HZ (hTt).okc hr1'.out).mono ?_
              rintro e q5 ⟨rfl, HR1⟩
              go_wp2_with fail
              refine (clkReady' (id := 0) HR1.b2 (hTt).okd hr2'.out).mono ?_
              rintro e q6 ⟨rfl, HR2⟩
              go_wp2_with fail
              refine (clkNow' HR2.b2).mono ?_
              rintro e q7 ⟨rfl, rfl⟩
              rw [hw1'.out]
              go_wp2_with fail
              refine (clkNow' HR2).mono ?_
              rintro e q8 ⟨rfl, rfl⟩
              rw [hw2'.out]
              go_wp2_with fail
              go_roundw
              case rel => exact ⟨k + 1, now + 1, _, _, _, by omega, by go_num, by omega, by omega, hTt, HR2.b2⟩
              case measure => simp [intOf]; omega
            | false =>
              obtain ⟨hL1, rs, hL2, hrl, hge⟩ := hT.due0 (by omega) hdue
              go_wp2_with fail
              refine (clkTick' HB hT.okc rfl hL1 hE1).mono ?_
              rintro e z1 ⟨a1, rfl, HA⟩
              go_wp2_with fail
              refine (clkTick' HA.b3 hT.okd rfl hL2 hE2).mono ?_
              rintro e z2 ⟨a2, rfl, HD⟩
              have hE := Lib.hid (And.intro hE1 (And.intro hE2 (And.intro hL1 hL2)))
              have hdd := Lib.hid hdue
              clear hE1 hE2 hL1 hL2 hdue
              have q1 : Rds z2 (.slice a1 0 0) (ints []) := ⟨_, _, rfl, by decide, fun h => by simp [ints] at h⟩
              have HZ : ∀ nz, Hd W [Clock c mc.tick, Clock d md.tick, whole W] (z2.drewN nz) := fun nz => (HD.tail.b2.tail.b2).drewN nz
              cases rs with
              | nil =>
                cases a2 with
                | none =>
                  have q2 : Rds z2 (.slice none 0 0) (ints []) := ⟨_, _, rfl, by decide, fun h => by simp [ints] at h⟩
                  go_wp2_with fail
                  refine (sameInt q1 q2).mono ?_
                  rintro e z3 ⟨rfl, nz, rfl⟩
                  obtain ⟨rl, bl, hl1, hl2⟩ := (hTt).last_
                  obtain ⟨rn, bn, hx1, hx2⟩ := (hTt).next_
                  obtain ⟨rr, hr1, hr2⟩ := (hTt).ready_
                  obtain ⟨hw1, hw2⟩ := (hTt).now_
                  have hl2' := Lib.hid hl2
                  have hx1' := Lib.hid hx1
                  have hx2' := Lib.hid hx2
                  have hr1' := Lib.hid hr1
                  have hr2' := Lib.hid hr2
                  have hw1' := Lib.hid hw1
                  have hw2' := Lib.hid hw2
                  clear hl2 hx1 hx2 hr1 hr2 hw1 hw2
                  go_wp2_with fail
                  refine (clkLast' (id := 0) (HZ nz) (hTt).okc hl1).mono ?_
                  rintro e q1 ⟨rfl, rfl⟩
                  clear hl1
                  go_wp2_with fail
                  refine (clkLast' (id := 0) ((HZ nz)).b2 (hTt).okd hl2'.out).mono ?_
                  rintro e q2 ⟨rfl, rfl⟩
                  go_wp2_with fail
                  refine (clkNext' (id := 0) (HZ nz) (hTt).okc hx1'.out).mono ?_
                  rintro e q3 ⟨rfl, rfl⟩
                  go_wp2_with fail
                  refine (clkNext' (id := 0) ((HZ nz)).b2 (hTt).okd hx2'.out).mono ?_
                  rintro e q4 ⟨rfl, rfl⟩
                  go_wp2_with fail
                  refine (clkReady' (id := 0) (HZ nz) (hTt).okc hr1'.out).mono ?_
                  rintro e q5 ⟨rfl, HR1⟩
                  go_wp2_with fail
                  refine (clkReady' (id := 0) HR1.b2 (hTt).okd hr2'.out).mono ?_
                  rintro e q6 ⟨rfl, HR2⟩
                  go_wp2_with fail
                  refine (clkNow' HR2.b2).mono ?_
                  rintro e q7 ⟨rfl, rfl⟩
                  rw [hw1'.out]
                  go_wp2_with fail
                  refine (clkNow' HR2).mono ?_
                  rintro e q8 ⟨rfl, rfl⟩
                  rw [hw2'.out]
                  go_wp2_with fail
                  go_roundw
                  case rel => exact ⟨k + 1, now + 1, _, _, _, by omega, by go_num, by omega, by omega, hTt, HR2.b2⟩
                  case measure => simp [intOf]; omega
                | some a2 =>
                  have q2 : ∀ a2, Rds z2 (.slice a2 0 0) (ints []) := fun a2 => ⟨_, _, rfl, by decide, fun h => by simp [ints] at h⟩
                  go_wp2_with fail
                  refine (sameInt q1 (q2 _)).mono ?_
                  rintro e z3 ⟨rfl, nz, rfl⟩
                  obtain ⟨rl, bl, hl1, hl2⟩ := (hTt).last_
                  obtain ⟨rn, bn, hx1, hx2⟩ := (hTt).next_
                  obtain ⟨rr, hr1, hr2⟩ := (hTt).ready_
                  obtain ⟨hw1, hw2⟩ := (hTt).now_
                  have hl2' := Lib.hid hl2
                  have hx1' := Lib.hid hx1
                  have hx2' := Lib.hid hx2
                  have hr1' := Lib.hid hr1
                  have hr2' := Lib.hid hr2
                  have hw1' := Lib.hid hw1
                  have hw2' := Lib.hid hw2
                  clear hl2 hx1 hx2 hr1 hr2 hw1 hw2
                  go_wp2_with fail
                  refine (clkLast' (id := 0) (HZ nz) (hTt).okc hl1).mono ?_
                  rintro e q1 ⟨rfl, rfl⟩
                  clear hl1
                  go_wp2_with fail
                  refine (clkLast' (id := 0) ((HZ nz)).b2 (hTt).okd hl2'.out).mono ?_
                  rintro e q2 ⟨rfl, rfl⟩
                  go_wp2_with fail
                  refine (clkNext' (id := 0) (HZ nz) (hTt).okc hx1'.out).mono ?_
                  rintro e q3 ⟨rfl, rfl⟩
                  go_wp2_with fail
                  refine (clkNext' (id := 0) ((HZ nz)).b2 (hTt).okd hx2'.out).mono ?_
                  rintro e q4 ⟨rfl, rfl⟩
                  go_wp2_with fail
                  refine (clkReady' (id := 0) (HZ nz) (hTt).okc hr1'.out).mono ?_
                  rintro e q5 ⟨rfl, HR1⟩
                  go_wp2_with fail
                  refine (clkReady' (id := 0) HR1.b2 (hTt).okd hr2'.out).mono ?_
                  rintro e q6 ⟨rfl, HR2⟩
                  go_wp2_with fail
                  refine (clkNow' HR2.b2).mono ?_
                  rintro e q7 ⟨rfl, rfl⟩
                  rw [hw1'.out]
                  go_wp2_with fail
                  refine (clkNow' HR2).mono ?_
                  rintro e q8 ⟨rfl, rfl⟩
                  rw [hw2'.out]
                  go_wp2_with fail
                  go_roundw
                  case rel => exact ⟨k + 1, now + 1, _, _, _, by omega, by go_num, by omega, by omega, hTt, HR2.b2⟩
                  case measure => simp [intOf]; omega
              | cons r0 rs =>
                obtain ⟨g2, c2, hv2, HG⟩ := HD.slc_at (by simp)
                injection hv2 with hv2 hv3 hv4
                subst hv2 hv4
                clear hv3
                have k0 := HG.slcC_rd (j := 0) (u := .int .i64 r0) rfl
                have hr0 := hge r0 List.mem_cons_self
                have hr1 : (r0 == 0) = false := by simpa using by omega
                clear hge
                have q2 : ∀ n, Rds z2 (.slice (some ⟨g2, 0, none⟩) 0 n) (ints []) := fun n => ⟨_, _, rfl, by decide, fun h => by simp [ints] at h⟩
                go_wp2_with fail
                refine (sameInt q1 (q2 _)).mono ?_
                rintro e z3 ⟨rfl, nz, rfl⟩
                obtain ⟨rl, bl, hl1, hl2⟩ := (hTt).last_
                obtain ⟨rn, bn, hx1, hx2⟩ := (hTt).next_
                obtain ⟨rr, hr1, hr2⟩ := (hTt).ready_
                obtain ⟨hw1, hw2⟩ := (hTt).now_
                have hl2' := Lib.hid hl2
                have hx1' := Lib.hid hx1
                have hx2' := Lib.hid hx2
                have hr1' := Lib.hid hr1
                have hr2' := Lib.hid hr2
                have hw1' := Lib.hid hw1
                have hw2' := Lib.hid hw2
                clear hl2 hx1 hx2 hr1 hr2 hw1 hw2
                go_wp2_with fail
                refine (clkLast' (id := 0) (HZ nz) (hTt).okc hl1).mono ?_
                rintro e q1 ⟨rfl, rfl⟩
                clear hl1
                go_wp2_with fail
                refine (clkLast' (id := 0) ((HZ nz)).b2 (hTt).okd hl2'.out).mono ?_
                rintro e q2 ⟨rfl, rfl⟩
                go_wp2_with fail
                refine (clkNext' (id := 0) (HZ nz) (hTt).okc hx1'.out).mono ?_
                rintro e q3 ⟨rfl, rfl⟩
                go_wp2_with fail
                refine (clkNext' (id := 0) ((HZ nz)).b2 (hTt).okd hx2'.out).mono ?_
                rintro e q4 ⟨rfl, rfl⟩
                go_wp2_with fail
                refine (clkReady' (id := 0) (HZ nz) (hTt).okc hr1'.out).mono ?_
                rintro e q5 ⟨rfl, HR1⟩
                go_wp2_with fail
                refine (clkReady' (id := 0) HR1.b2 (hTt).okd hr2'.out).mono ?_
                rintro e q6 ⟨rfl, HR2⟩
                go_wp2_with fail
                refine (clkNow' HR2.b2).mono ?_
                rintro e q7 ⟨rfl, rfl⟩
                rw [hw1'.out]
                go_wp2_with fail
                refine (clkNow' HR2).mono ?_
                rintro e q8 ⟨rfl, rfl⟩
                rw [hw2'.out]
                go_wp2_with fail
                go_roundw
                case rel => exact ⟨k + 1, now + 1, _, _, _, by omega, by go_num, by omega, by omega, hTt, HR2.b2⟩
                case measure => simp [intOf]; omega
          · have kd1 : (y.kd == 1) = false := by simpa using hk1
            clear hk1
            by_cases hk4 : y.kd = 4
            · have kd4 : (y.kd == 4) = true := by simp [hk4]
              clear hk4
              have HB : Hd W [Clock c mc, Clock d md, whole W] (wr.alloc (.cells #[.int .i64 y.kd, .int .i64 y.n, .string y.t.nm, .int .i64 y.t.lv, .int .i64 y.t.fr, .slice y.t.na y.t.nl y.t.nc, .string y.t.cd, .int .i64 y.t.p, .int .i64 y.t.f, .int .i64 y.t.g] 50)) := (HK.alloc _).tail
              obtain ⟨hTt, hE1, hE2⟩ := hT.tick (by omega)
              cases hdue : p.isDue (now + 1) with
              | true =>
                obtain ⟨hL1, rs, hL2, hrl⟩ := hT.due1 (by omega) hdue
                go_wp2_with fail
                refine (clkTick' HB hT.okc rfl hL1 hE1).mono ?_
                rintro e z1 ⟨a1, rfl, HA⟩
                go_wp2_with fail
                refine (clkTick' HA.b3 hT.okd rfl hL2 hE2).mono ?_
                rintro e z2 ⟨a2, rfl, HD⟩
                obtain ⟨g2, c2, hv2, HG⟩ := HD.slc_at (by simp)
                injection hv2 with hv2 hv3 hv4
                subst hv2 hv4
                clear hv3
                have k0 := HG.slcC_rd (j := 0) (u := .int .i64 0) rfl
                have q1 : Rds z2 (.slice a1 1 1) (ints [0]) := Rds.of_slc (xs := ints [0]) HD.b3 (by decide)
                have q2 : Rds z2 (.slice (some ⟨g2, 0, none⟩) 1 (rs.length + 1)) (ints [0]) := ⟨_, _, rfl, by decide, fun _ => ⟨g2, 0, rfl, fun j u hj => by
                  have hj0 : j = 0 := by have := lt_of_get? hj; simp [ints] at this; exact this
                  subst hj0
                  simp [ints] at hj
                  subst hj
                  exact k0⟩⟩
                have hE := Lib.hid (And.intro hE1 (And.intro hE2 (And.intro hL1 hL2)))
                have hdd := Lib.hid hdue
                clear hE1 hE2 hL1 hL2 hdue
                go_wp2_with fail
                refine (sameInt q1 q2).mono ?_
                rintro e z3 ⟨rfl, nz, rfl⟩
                have HZ : Hd W [Clock c mc.tick, Clock d md.tick, whole W] (z2.drewN nz) := (HD.tail.b2.tail.b2).drewN nz
                obtain ⟨rl, bl, hl1, hl2⟩ := (hTt).last_
                obtain ⟨rn, bn, hx1, hx2⟩ := (hTt).next_
                obtain ⟨rr, hr1, hr2⟩ := (hTt).ready_
                obtain ⟨hw1, hw2⟩ := (hTt).now_
                have hl2' := Lib.hid hl2
                have hx1' := Lib.hid hx1
                have hx2' := Lib.hid hx2
                have hr1' := Lib.hid hr1
                have hr2' := Lib.hid hr2
                have hw1' := Lib.hid hw1
                have hw2' := Lib.hid hw2
                clear hl2 hx1 hx2 hr1 hr2 hw1 hw2
                go_wp2_with fail
                refine (clkLast' (id := 0) HZ (hTt).okc hl1).mono ?_
                rintro e q1 ⟨rfl, rfl⟩
                clear hl1
                go_wp2_with fail
                refine (clkLast' (id := 0) (HZ).b2 (hTt).okd hl2'.out).mono ?_
                rintro e q2 ⟨rfl, rfl⟩
                go_wp2_with fail
                refine (clkNext' (id := 0) HZ (hTt).okc hx1'.out).mono ?_
                rintro e q3 ⟨rfl, rfl⟩
                go_wp2_with fail
                refine (clkNext' (id := 0) (HZ).b2 (hTt).okd hx2'.out).mono ?_
                rintro e q4 ⟨rfl, rfl⟩
                go_wp2_with fail
                refine (clkReady' (id := 0) HZ (hTt).okc hr1'.out).mono ?_
                rintro e q5 ⟨rfl, HR1⟩
                go_wp2_with fail
                refine (clkReady' (id := 0) HR1.b2 (hTt).okd hr2'.out).mono ?_
                rintro e q6 ⟨rfl, HR2⟩
                go_wp2_with fail
                refine (clkNow' HR2.b2).mono ?_
                rintro e q7 ⟨rfl, rfl⟩
                rw [hw1'.out]
                go_wp2_with fail
                refine (clkNow' HR2).mono ?_
                rintro e q8 ⟨rfl, rfl⟩
                rw [hw2'.out]
                go_wp2_with fail
                go_roundw
                case rel => exact ⟨k + 1, now + 1, _, _, _, by omega, by go_num, by omega, by omega, hTt, HR2.b2⟩
                case measure => simp [intOf]; omega
              | false =>
                obtain ⟨hL1, rs, hL2, hrl, hge⟩ := hT.due0 (by omega) hdue
                go_wp2_with fail
                refine (clkTick' HB hT.okc rfl hL1 hE1).mono ?_
                rintro e z1 ⟨a1, rfl, HA⟩
                go_wp2_with fail
                refine (clkTick' HA.b3 hT.okd rfl hL2 hE2).mono ?_
                rintro e z2 ⟨a2, rfl, HD⟩
                have hE := Lib.hid (And.intro hE1 (And.intro hE2 (And.intro hL1 hL2)))
                have hdd := Lib.hid hdue
                clear hE1 hE2 hL1 hL2 hdue
                have q1 : Rds z2 (.slice a1 0 0) (ints []) := ⟨_, _, rfl, by decide, fun h => by simp [ints] at h⟩
                have HZ : ∀ nz, Hd W [Clock c mc.tick, Clock d md.tick, whole W] (z2.drewN nz) := fun nz => (HD.tail.b2.tail.b2).drewN nz
                cases rs with
                | nil =>
                  cases a2 with
                  | none =>
                    have q2 : Rds z2 (.slice none 0 0) (ints []) := ⟨_, _, rfl, by decide, fun h => by simp [ints] at h⟩
                    go_wp2_with fail
                    refine (sameInt q1 q2).mono ?_
                    rintro e z3 ⟨rfl, nz, rfl⟩
                    obtain ⟨rl, bl, hl1, hl2⟩ := (hTt).last_
                    obtain ⟨rn, bn, hx1, hx2⟩ := (hTt).next_
                    obtain ⟨rr, hr1, hr2⟩ := (hTt).ready_
                    obtain ⟨hw1, hw2⟩ := (hTt).now_
                    have hl2' := Lib.hid hl2
                    have hx1' := Lib.hid hx1
                    have hx2' := Lib.hid hx2
                    have hr1' := Lib.hid hr1
                    have hr2' := Lib.hid hr2
                    have hw1' := Lib.hid hw1
                    have hw2' := Lib.hid hw2
                    clear hl2 hx1 hx2 hr1 hr2 hw1 hw2
                    go_wp2_with fail
                    refine (clkLast' (id := 0) (HZ nz) (hTt).okc hl1).mono ?_
                    rintro e q1 ⟨rfl, rfl⟩
                    clear hl1
                    go_wp2_with fail
                    refine (clkLast' (id := 0) ((HZ nz)).b2 (hTt).okd hl2'.out).mono ?_
                    rintro e q2 ⟨rfl, rfl⟩
                    go_wp2_with fail
                    refine (clkNext' (id := 0) (HZ nz) (hTt).okc hx1'.out).mono ?_
                    rintro e q3 ⟨rfl, rfl⟩
                    go_wp2_with fail
                    refine (clkNext' (id := 0) ((HZ nz)).b2 (hTt).okd hx2'.out).mono ?_
                    rintro e q4 ⟨rfl, rfl⟩
                    go_wp2_with fail
                    refine (clkReady' (id := 0) (HZ nz) (hTt).okc hr1'.out).mono ?_
                    rintro e q5 ⟨rfl, HR1⟩
                    go_wp2_with fail
                    refine (clkReady' (id := 0) HR1.b2 (hTt).okd hr2'.out).mono ?_
                    rintro e q6 ⟨rfl, HR2⟩
                    go_wp2_with fail
                    refine (clkNow' HR2.b2).mono ?_
                    rintro e q7 ⟨rfl, rfl⟩
                    rw [hw1'.out]
                    go_wp2_with fail
                    refine (clkNow' HR2).mono ?_
                    rintro e q8 ⟨rfl, rfl⟩
                    rw [hw2'.out]
                    go_wp2_with fail
                    go_roundw
                    case rel => exact ⟨k + 1, now + 1, _, _, _, by omega, by go_num, by omega, by omega, hTt, HR2.b2⟩
                    case measure => simp [intOf]; omega
                  | some a2 =>
                    have q2 : ∀ a2, Rds z2 (.slice a2 0 0) (ints []) := fun a2 => ⟨_, _, rfl, by decide, fun h => by simp [ints] at h⟩
                    go_wp2_with fail
                    refine (sameInt q1 (q2 _)).mono ?_
                    rintro e z3 ⟨rfl, nz, rfl⟩
                    obtain ⟨rl, bl, hl1, hl2⟩ := (hTt).last_
                    obtain ⟨rn, bn, hx1, hx2⟩ := (hTt).next_
                    obtain ⟨rr, hr1, hr2⟩ := (hTt).ready_
                    obtain ⟨hw1, hw2⟩ := (hTt).now_
                    have hl2' := Lib.hid hl2
                    have hx1' := Lib.hid hx1
                    have hx2' := Lib.hid hx2
                    have hr1' := Lib.hid hr1
                    have hr2' := Lib.hid hr2
                    have hw1' := Lib.hid hw1
                    have hw2' := Lib.hid hw2
                    clear hl2 hx1 hx2 hr1 hr2 hw1 hw2
                    go_wp2_with fail
                    refine (clkLast' (id := 0) (HZ nz) (hTt).okc hl1).mono ?_
                    rintro e q1 ⟨rfl, rfl⟩
                    clear hl1
                    go_wp2_with fail
                    refine (clkLast' (id := 0) ((HZ nz)).b2 (hTt).okd hl2'.out).mono ?_
                    rintro e q2 ⟨rfl, rfl⟩
                    go_wp2_with fail
                    refine (clkNext' (id := 0) (HZ nz) (hTt).okc hx1'.out).mono ?_
                    rintro e q3 ⟨rfl, rfl⟩
                    go_wp2_with fail
                    refine (clkNext' (id := 0) ((HZ nz)).b2 (hTt).okd hx2'.out).mono ?_
                    rintro e q4 ⟨rfl, rfl⟩
                    go_wp2_with fail
                    refine (clkReady' (id := 0) (HZ nz) (hTt).okc hr1'.out).mono ?_
                    rintro e q5 ⟨rfl, HR1⟩
                    go_wp2_with fail
                    refine (clkReady' (id := 0) HR1.b2 (hTt).okd hr2'.out).mono ?_
                    rintro e q6 ⟨rfl, HR2⟩
                    go_wp2_with fail
                    refine (clkNow' HR2.b2).mono ?_
                    rintro e q7 ⟨rfl, rfl⟩
                    rw [hw1'.out]
                    go_wp2_with fail
                    refine (clkNow' HR2).mono ?_
                    rintro e q8 ⟨rfl, rfl⟩
                    rw [hw2'.out]
                    go_wp2_with fail
                    go_roundw
                    case rel => exact ⟨k + 1, now + 1, _, _, _, by omega, by go_num, by omega, by omega, hTt, HR2.b2⟩
                    case measure => simp [intOf]; omega
                | cons r0 rs =>
                  obtain ⟨g2, c2, hv2, HG⟩ := HD.slc_at (by simp)
                  injection hv2 with hv2 hv3 hv4
                  subst hv2 hv4
                  clear hv3
                  have k0 := HG.slcC_rd (j := 0) (u := .int .i64 r0) rfl
                  have hr0 := hge r0 List.mem_cons_self
                  have hr1 : (r0 == 0) = false := by simpa using by omega
                  clear hge
                  have q2 : ∀ n, Rds z2 (.slice (some ⟨g2, 0, none⟩) 0 n) (ints []) := fun n => ⟨_, _, rfl, by decide, fun h => by simp [ints] at h⟩
                  go_wp2_with fail
                  refine (sameInt q1 (q2 _)).mono ?_
                  rintro e z3 ⟨rfl, nz, rfl⟩
                  obtain ⟨rl, bl, hl1, hl2⟩ := (hTt).last_
                  obtain ⟨rn, bn, hx1, hx2⟩ := (hTt).next_
                  obtain ⟨rr, hr1, hr2⟩ := (hTt).ready_
                  obtain ⟨hw1, hw2⟩ := (hTt).now_
                  have hl2' := Lib.hid hl2
                  have hx1' := Lib.hid hx1
                  have hx2' := Lib.hid hx2
                  have hr1' := Lib.hid hr1
                  have hr2' := Lib.hid hr2
                  have hw1' := Lib.hid hw1
                  have hw2' := Lib.hid hw2
                  clear hl2 hx1 hx2 hr1 hr2 hw1 hw2
                  go_wp2_with fail
                  refine (clkLast' (id := 0) (HZ nz) (hTt).okc hl1).mono ?_
                  rintro e q1 ⟨rfl, rfl⟩
                  clear hl1
                  go_wp2_with fail
                  refine (clkLast' (id := 0) ((HZ nz)).b2 (hTt).okd hl2'.out).mono ?_
                  rintro e q2 ⟨rfl, rfl⟩
                  go_wp2_with fail
                  refine (clkNext' (id := 0) (HZ nz) (hTt).okc hx1'.out).mono ?_
                  rintro e q3 ⟨rfl, rfl⟩
                  go_wp2_with fail
                  refine (clkNext' (id := 0) ((HZ nz)).b2 (hTt).okd hx2'.out).mono ?_
                  rintro e q4 ⟨rfl, rfl⟩
                  go_wp2_with fail
                  refine (clkReady' (id := 0) (HZ nz) (hTt).okc hr1'.out).mono ?_
                  rintro e q5 ⟨rfl, HR1⟩
                  go_wp2_with fail
                  refine (clkReady' (id := 0) HR1.b2 (hTt).okd hr2'.out).mono ?_
                  rintro e q6 ⟨rfl, HR2⟩
                  go_wp2_with fail
                  refine (clkNow' HR2.b2).mono ?_
                  rintro e q7 ⟨rfl, rfl⟩
                  rw [hw1'.out]
                  go_wp2_with fail
                  refine (clkNow' HR2).mono ?_
                  rintro e q8 ⟨rfl, rfl⟩
                  rw [hw2'.out]
                  go_wp2_with fail
                  go_roundw
                  case rel => exact ⟨k + 1, now + 1, _, _, _, by omega, by go_num, by omega, by omega, hTt, HR2.b2⟩
                  case measure => simp [intOf]; omega
            · have kd4 : (y.kd == 4) = false := by simpa using hk4
              clear hk4
              by_cases hk2 : y.kd = 2
              · have kd2 : (y.kd == 2) = true := by simp [hk2]
                clear hk2
                have HB : Hd W [Clock c mc, Clock d md, whole W] (wr.alloc (.cells #[.int .i64 y.kd, .int .i64 y.n, .string y.t.nm, .int .i64 y.t.lv, .int .i64 y.t.fr, .slice y.t.na y.t.nl y.t.nc, .string y.t.cd, .int .i64 y.t.p, .int .i64 y.t.f, .int .i64 y.t.g] 50)) := (HK.alloc _).tail
                go_wp2_with fail
                refine (clkReady' (id := y.n) HB.b2 hT.okd rfl).mono ?_
                rintro e u0 ⟨rfl, HA0⟩

                obtain ⟨rl, bl, hl1, hl2⟩ := (hT).last_
                obtain ⟨rn, bn, hx1, hx2⟩ := (hT).next_
                obtain ⟨rr, hr1, hr2⟩ := (hT).ready_
                obtain ⟨hw1, hw2⟩ := (hT).now_
                have hl2' := Lib.hid hl2
                have hx1' := Lib.hid hx1
                have hx2' := Lib.hid hx2
                have hr1' := Lib.hid hr1
                have hr2' := Lib.hid hr2
                have hw1' := Lib.hid hw1
                have hw2' := Lib.hid hw2
                clear hl2 hx1 hx2 hr1 hr2 hw1 hw2
                go_wp2_with fail
                refine (clkLast' (id := 0) HA0.b2 (hT).okc hl1).mono ?_
                rintro e q1 ⟨rfl, rfl⟩
                clear hl1
                go_wp2_with fail
                refine (clkLast' (id := 0) (HA0.b2).b2 (hT).okd hl2'.out).mono ?_
                rintro e q2 ⟨rfl, rfl⟩
                go_wp2_with fail
                refine (clkNext' (id := 0) HA0.b2 (hT).okc hx1'.out).mono ?_
                rintro e q3 ⟨rfl, rfl⟩
                go_wp2_with fail
                refine (clkNext' (id := 0) (HA0.b2).b2 (hT).okd hx2'.out).mono ?_
                rintro e q4 ⟨rfl, rfl⟩
                go_wp2_with fail
                refine (clkReady' (id := 0) HA0.b2 (hT).okc hr1'.out).mono ?_
                rintro e q5 ⟨rfl, HR1⟩
                go_wp2_with fail
                refine (clkReady' (id := 0) HR1.b2 (hT).okd hr2'.out).mono ?_
                rintro e q6 ⟨rfl, HR2⟩
                go_wp2_with fail
                refine (clkNow' HR2.b2).mono ?_
                rintro e q7 ⟨rfl, rfl⟩
                rw [hw1'.out]
                go_wp2_with fail
                refine (clkNow' HR2).mono ?_
                rintro e q8 ⟨rfl, rfl⟩
                rw [hw2'.out]
                go_wp2_with fail
                go_roundw
                case rel => exact ⟨k + 1, now, _, _, _, by omega, by go_num, by omega, by omega, hT, HR2.b2⟩
                case measure => simp [intOf]; omega
              · have kd2 : (y.kd == 2) = false := by simpa using hk2
                clear hk2
                by_cases hk3 : y.kd = 3
                · have kd3 : (y.kd == 3) = true := by simp [hk3]
                  clear hk3
                  by_cases hn0' : y.n = 0
                  · have n0' : (y.n == 0) = true := by simp [hn0']
                    have hy0 := Lib.hid hn0'
                    clear hn0'
                    have HB : Hd W [Clock c mc, cel wr.heap.size 50 #[.int .i64 y.kd, .int .i64 y.n, .string y.t.nm, .int .i64 y.t.lv, .int .i64 y.t.fr, .slice y.t.na y.t.nl y.t.nc, .string y.t.cd, .int .i64 y.t.p, .int .i64 y.t.f, .int .i64 y.t.g], Clock d md, whole W] (wr.alloc (.cells #[.int .i64 y.kd, .int .i64 y.n, .string y.t.nm, .int .i64 y.t.lv, .int .i64 y.t.fr, .slice y.t.na y.t.nl y.t.nc, .string y.t.cd, .int .i64 y.t.p, .int .i64 y.t.f, .int .i64 y.t.g] 50)) := (HK.alloc _).b2
                    go_wp2_with fail
                    refine (clkNote' (id := 0) HB hT.okc rfl rfl).mono ?_
                    rintro e u0 ⟨rfl, HA0⟩
                    have rb := HA0.b2.rd
                    go_wp2_with fail
                    refine (clkNote' (id := y.n) HA0.b3 hT.okd (m' := md.note 0) (r := md.noteE 0) (by rw [hy0.out]) (by rw [hy0.out])).mono ?_
                    rintro e u1 ⟨rfl, HA1⟩
                    have hTN := hT.note0

                    obtain ⟨rl, bl, hl1, hl2⟩ := (hTN).last_
                    obtain ⟨rn, bn, hx1, hx2⟩ := (hTN).next_
                    obtain ⟨rr, hr1, hr2⟩ := (hTN).ready_
                    obtain ⟨hw1, hw2⟩ := (hTN).now_
                    have hl2' := Lib.hid hl2
                    have hx1' := Lib.hid hx1
                    have hx2' := Lib.hid hx2
                    have hr1' := Lib.hid hr1
                    have hr2' := Lib.hid hr2
                    have hw1' := Lib.hid hw1
                    have hw2' := Lib.hid hw2
                    clear hl2 hx1 hx2 hr1 hr2 hw1 hw2
                    go_wp2_with fail
                    refine (clkLast' (id := 0) HA1.b3.tail.b2 (hTN).okc hl1).mono ?_
                    rintro e q1 ⟨rfl, rfl⟩
                    clear hl1
                    go_wp2_with fail
                    refine (clkLast' (id := 0) (HA1.b3.tail.b2).b2 (hTN).okd hl2'.out).mono ?_
                    rintro e q2 ⟨rfl, rfl⟩
                    go_wp2_with fail
                    refine (clkNext' (id := 0) HA1.b3.tail.b2 (hTN).okc hx1'.out).mono ?_
                    rintro e q3 ⟨rfl, rfl⟩
                    go_wp2_with fail
                    refine (clkNext' (id := 0) (HA1.b3.tail.b2).b2 (hTN).okd hx2'.out).mono ?_
                    rintro e q4 ⟨rfl, rfl⟩
                    go_wp2_with fail
                    refine (clkReady' (id := 0) HA1.b3.tail.b2 (hTN).okc hr1'.out).mono ?_
                    rintro e q5 ⟨rfl, HR1⟩
                    go_wp2_with fail
                    refine (clkReady' (id := 0) HR1.b2 (hTN).okd hr2'.out).mono ?_
                    rintro e q6 ⟨rfl, HR2⟩
                    go_wp2_with fail
                    refine (clkNow' HR2.b2).mono ?_
                    rintro e q7 ⟨rfl, rfl⟩
                    rw [hw1'.out]
                    go_wp2_with fail
                    refine (clkNow' HR2).mono ?_
                    rintro e q8 ⟨rfl, rfl⟩
                    rw [hw2'.out]
                    go_wp2_with fail
                    go_roundw
                    case rel => exact ⟨k + 1, now, _, _, _, by omega, by go_num, by omega, by omega, hTN, HR2.b2⟩
                    case measure => simp [intOf]; omega
                  · have n0' : (y.n == 0) = false := by simpa using hn0'
                    have hTN := hT.noteN hn0'
                    clear hn0'
                    have HB : Hd W [Clock c mc, Clock d md, whole W] (wr.alloc (.cells #[.int .i64 y.kd, .int .i64 y.n, .string y.t.nm, .int .i64 y.t.lv, .int .i64 y.t.fr, .slice y.t.na y.t.nl y.t.nc, .string y.t.cd, .int .i64 y.t.p, .int .i64 y.t.f, .int .i64 y.t.g] 50)) := (HK.alloc _).tail
                    go_wp2_with fail
                    refine (clkNote' (id := y.n) HB.b2 hT.okd rfl rfl).mono ?_
                    rintro e u0 ⟨rfl, HA0⟩

                    obtain ⟨rl, bl, hl1, hl2⟩ := (hTN).last_
                    obtain ⟨rn, bn, hx1, hx2⟩ := (hTN).next_
                    obtain ⟨rr, hr1, hr2⟩ := (hTN).ready_
                    obtain ⟨hw1, hw2⟩ := (hTN).now_
                    have hl2' := Lib.hid hl2
                    have hx1' := Lib.hid hx1
                    have hx2' := Lib.hid hx2
                    have hr1' := Lib.hid hr1
                    have hr2' := Lib.hid hr2
                    have hw1' := Lib.hid hw1
                    have hw2' := Lib.hid hw2
                    clear hl2 hx1 hx2 hr1 hr2 hw1 hw2
                    go_wp2_with fail
                    refine (clkLast' (id := 0) HA0.b2 (hTN).okc hl1).mono ?_
                    rintro e q1 ⟨rfl, rfl⟩
                    clear hl1
                    go_wp2_with fail
                    refine (clkLast' (id := 0) (HA0.b2).b2 (hTN).okd hl2'.out).mono ?_
                    rintro e q2 ⟨rfl, rfl⟩
                    go_wp2_with fail
                    refine (clkNext' (id := 0) HA0.b2 (hTN).okc hx1'.out).mono ?_
                    rintro e q3 ⟨rfl, rfl⟩
                    go_wp2_with fail
                    refine (clkNext' (id := 0) (HA0.b2).b2 (hTN).okd hx2'.out).mono ?_
                    rintro e q4 ⟨rfl, rfl⟩
                    go_wp2_with fail
                    refine (clkReady' (id := 0) HA0.b2 (hTN).okc hr1'.out).mono ?_
                    rintro e q5 ⟨rfl, HR1⟩
                    go_wp2_with fail
                    refine (clkReady' (id := 0) HR1.b2 (hTN).okd hr2'.out).mono ?_
                    rintro e q6 ⟨rfl, HR2⟩
                    go_wp2_with fail
                    refine (clkNow' HR2.b2).mono ?_
                    rintro e q7 ⟨rfl, rfl⟩
                    rw [hw1'.out]
                    go_wp2_with fail
                    refine (clkNow' HR2).mono ?_
                    rintro e q8 ⟨rfl, rfl⟩
                    rw [hw2'.out]
                    go_wp2_with fail
                    go_roundw
                    case rel => exact ⟨k + 1, now, _, _, _, by omega, by go_num, by omega, by omega, hTN, HR2.b2⟩
                    case measure => simp [intOf]; omega
                · have kd3 : (y.kd == 3) = false := by simpa using hk3
                  clear hk3
                  have HB : Hd W [Clock c mc, Clock d md, whole W] (wr.alloc (.cells #[.int .i64 y.kd, .int .i64 y.n, .string y.t.nm, .int .i64 y.t.lv, .int .i64 y.t.fr, .slice y.t.na y.t.nl y.t.nc, .string y.t.cd, .int .i64 y.t.p, .int .i64 y.t.f, .int .i64 y.t.g] 50)) := (HK.alloc _).tail

                  obtain ⟨rl, bl, hl1, hl2⟩ := (hT).last_
                  obtain ⟨rn, bn, hx1, hx2⟩ := (hT).next_
                  obtain ⟨rr, hr1, hr2⟩ := (hT).ready_
                  obtain ⟨hw1, hw2⟩ := (hT).now_
                  have hl2' := Lib.hid hl2
                  have hx1' := Lib.hid hx1
                  have hx2' := Lib.hid hx2
                  have hr1' := Lib.hid hr1
                  have hr2' := Lib.hid hr2
                  have hw1' := Lib.hid hw1
                  have hw2' := Lib.hid hw2
                  clear hl2 hx1 hx2 hr1 hr2 hw1 hw2
                  go_wp2_with fail
                  refine (clkLast' (id := 0) HB (hT).okc hl1).mono ?_
                  rintro e q1 ⟨rfl, rfl⟩
                  clear hl1
                  go_wp2_with fail
                  refine (clkLast' (id := 0) (HB).b2 (hT).okd hl2'.out).mono ?_
                  rintro e q2 ⟨rfl, rfl⟩
                  go_wp2_with fail
                  refine (clkNext' (id := 0) HB (hT).okc hx1'.out).mono ?_
                  rintro e q3 ⟨rfl, rfl⟩
                  go_wp2_with fail
                  refine (clkNext' (id := 0) (HB).b2 (hT).okd hx2'.out).mono ?_
                  rintro e q4 ⟨rfl, rfl⟩
                  go_wp2_with fail
                  refine (clkReady' (id := 0) HB (hT).okc hr1'.out).mono ?_
                  rintro e q5 ⟨rfl, HR1⟩
                  go_wp2_with fail
                  refine (clkReady' (id := 0) HR1.b2 (hT).okd hr2'.out).mono ?_
                  rintro e q6 ⟨rfl, HR2⟩
                  go_wp2_with fail
                  refine (clkNow' HR2.b2).mono ?_
                  rintro e q7 ⟨rfl, rfl⟩
                  rw [hw1'.out]
                  go_wp2_with fail
                  refine (clkNow' HR2).mono ?_
                  rintro e q8 ⟨rfl, rfl⟩
                  rw [hw2'.out]
                  go_wp2_with fail
                  go_roundw
                  case rel => exact ⟨k + 1, now, _, _, _, by omega, by go_num, by omega, by omega, hT, HR2.b2⟩
                  case measure => simp [intOf]; omega
      · go_wp2_with fail
        refine (runs_spec HK).mono ?_
        rintro e w9 ⟨rfl, H9⟩
        go_wp2_with fail
        go_ret
        exact ⟨rfl, H9.tail.tail⟩
end Go.Proofs.Ytdppdmmcnlmdgaa
