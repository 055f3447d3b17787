/-
  ReleaseDue walked: whatever task, whatever is asked, noted or added between the ticks.
-/
import Derived.Test.YtdppdmmcnlmdgaaRel7
namespace Go.Proofs.Ytdppdmmcnlmdgaa
open Go.RowKit Spl

/-- The first task is periodic, and due next at `due`; of the others nothing is said. -/
structure DueI (m : Clk) (now P due : Int) : Prop where
  ok : m.Ok
  now_ : m.now = now
  first : ∃ last has rest, m.l = ⟨P, 0, due, last, has⟩ :: rest
theorem DueI.add {m : Clk} {now P due : Int} (h : DueI m now P due) (p f g : Int) : DueI (m.add p f g) now P due := by
  refine ⟨h.ok.add p f g, ?_, ?_⟩
  · unfold Clk.add; split
    · exact h.now_
    · split
      · exact h.now_
      · exact h.now_
  · obtain ⟨a, b, r, hr⟩ := h.first
    unfold Clk.add; split
    · exact ⟨a, b, r, hr⟩
    · split
      · exact ⟨a, b, _, by show m.l ++ _ = _; rw [hr]; rfl⟩
      · exact ⟨a, b, r, hr⟩
theorem DueI.note {m : Clk} {now P due : Int} (h : DueI m now P due) : DueI (m.note 0) now P due := by
  obtain ⟨a, b, r, hr⟩ := h.first
  have e : m.at? 0 = some ⟨P, 0, due, a, b⟩ := by simp [Clk.at?, hr]
  exact ⟨h.ok.note 0, by simp [Clk.note, e]; exact h.now_, m.now, true, r, by simp [Clk.note, e, hr]⟩
theorem DueI.noteE {m : Clk} {now P due : Int} (h : DueI m now P due) : m.noteE 0 = 0 := by
  obtain ⟨a, b, r, hr⟩ := h.first
  have e : m.at? 0 = some ⟨P, 0, due, a, b⟩ := by simp [Clk.at?, hr]
  simp [Clk.noteE, e]
theorem DueI.next {m : Clk} {now P due : Int} (h : DueI m now P due) (hP : 1 ≤ P) : m.next 0 = (due, true) := by
  obtain ⟨a, b, r, hr⟩ := h.first
  have e : m.at? 0 = some ⟨P, 0, due, a, b⟩ := by simp [Clk.at?, hr]
  have hP' : ¬ P = 0 := by omega
  simp [Clk.next, e, Clk.nextP, hP']
theorem DueI.lt {m : Clk} {now P due : Int} (h : DueI m now P due) (hP : 1 ≤ P) : now < due := by
  obtain ⟨a, b, r, hr⟩ := h.first
  have := (h.ok.pat ⟨P, 0, due, a, b⟩ (by rw [hr]; exact List.mem_cons_self)).d2 (by show 0 < P; omega)
  rw [h.now_] at this
  exact this
theorem DueI.tick1 {m : Clk} {now P due : Int} (h : DueI m now P due) (hP : 1 ≤ P) (hn : now < 1000000) (hd : due = now + 1) : DueI m.tick (now + 1) P (due + P) ∧ m.tickE = 0 ∧ ∃ rs, m.tickL = 0 :: rs ∧ (0 :: rs).Pairwise (· < ·) ∧ rs.length ≤ 64 := by
  obtain ⟨a, b, r, hr⟩ := h.first
  have hnow := h.now_
  have h0 : ¬ 1099511627776 ≤ m.now := by omega
  have hdue : (⟨P, 0, due, a, b⟩ : Pat).isDue (m.now + 1) = true := by simp [Pat.isDue, hnow, hd]; omega
  have e : m.tickL = 0 :: dueIds (m.now + 1) 1 r := by simp [Clk.tickL, Clk.atEnd, h0, hr, dueIds, hdue]
  have hlen := h.ok.len
  rw [hr] at hlen
  simp only [List.length_cons] at hlen
  have et : m.tick = ⟨m.now + 1, m.l.map (Pat.tick (m.now + 1))⟩ := by simp [Clk.tick, Clk.atEnd, h0]
  have en : m.tick.now = now + 1 := by rw [et]; show m.now + 1 = _; rw [hnow]
  refine ⟨⟨h.ok.tick, en, a, b, r.map (Pat.tick (m.now + 1)), by simp [Clk.tick, Clk.atEnd, h0, hr, Pat.tick, hdue]⟩, by simp [Clk.tickE, Clk.atEnd, h0], _, e, ?_, ?_⟩
  · have := dueIds_rising (m.now + 1) m.l 0
    rw [show dueIds (m.now + 1) 0 m.l = m.tickL from by simp [Clk.tickL, Clk.atEnd, h0], e] at this
    exact this
  · have := dueIds_length (m.now + 1) r 1; omega
theorem DueI.tick0 {m : Clk} {now P due : Int} (h : DueI m now P due) (hn : now < 1000000) (hd : ¬ due = now + 1) : DueI m.tick (now + 1) P due ∧ m.tickE = 0 ∧ ∃ rs, m.tickL = rs ∧ rs.Pairwise (· < ·) ∧ rs.length ≤ 64 ∧ ∀ x ∈ rs, 1 ≤ x := by
  obtain ⟨a, b, r, hr⟩ := h.first
  have hnow := h.now_
  have h0 : ¬ 1099511627776 ≤ m.now := by omega
  have hdue : (⟨P, 0, due, a, b⟩ : Pat).isDue (m.now + 1) = false := by simp [Pat.isDue, hnow, hd]
  have e : m.tickL = dueIds (m.now + 1) 1 r := by simp [Clk.tickL, Clk.atEnd, h0, hr, dueIds, hdue]
  have hlen := h.ok.len
  rw [hr] at hlen
  simp only [List.length_cons] at hlen
  have et : m.tick = ⟨m.now + 1, m.l.map (Pat.tick (m.now + 1))⟩ := by simp [Clk.tick, Clk.atEnd, h0]
  have en : m.tick.now = now + 1 := by rw [et]; show m.now + 1 = _; rw [hnow]
  refine ⟨⟨h.ok.tick, en, a, b, r.map (Pat.tick (m.now + 1)), by simp [Clk.tick, Clk.atEnd, h0, hr, Pat.tick, hdue]⟩, by simp [Clk.tickE, Clk.atEnd, h0], _, e, dueIds_rising _ _ _, ?_, ?_⟩
  · have := dueIds_length (m.now + 1) r 1; omega
  · intro x hx; have := dueIds_ge _ _ _ x hx; omega
theorem DueI.begin {bf P F : Int} (hb : 0 ≤ bf) (hb2 : bf ≤ 60) (hP : 1 ≤ P) (hP2 : P ≤ 40) (hF : 1 ≤ F) (hF2 : F ≤ 40) :
    DueI (Clk.add ⟨bf, []⟩ P F 0) bf P (bf + F) ∧ Clk.addN ⟨bf, []⟩ P F 0 = 0 ∧ Clk.addE ⟨bf, []⟩ P F 0 = 0 := by
  have ht : timesOk P F 0 = true := timesOk_iff.2 ⟨⟨by omega, by omega⟩, ⟨by omega, by omega⟩, ⟨by decide, by decide⟩, .inr rfl, by omega⟩
  have ok : Clk.Ok ⟨bf, []⟩ := ⟨hb, by show bf ≤ _; omega, Nat.zero_le _, by simp⟩
  have e : Clk.add ⟨bf, []⟩ P F 0 = ⟨bf, [⟨P, 0, bf + F, 0, false⟩]⟩ := by simp [Clk.add, Clk.full, ht]
  refine ⟨⟨ok.add P F 0, by rw [e], 0, false, [], by rw [e]⟩, ?_, ?_⟩
  · simp [Clk.addN, Clk.full, ht]
  · simp [Clk.addE, Clk.full, ht]
theorem pair_at {l : List Int} (h : l.Pairwise (· < ·)) {j : Nat} (hj : j + 1 < l.length) : l[j] < l[j + 1] := (List.pairwise_iff_getElem.1 h) j (j + 1) (by omega) hj (by omega)
theorem nil_ticks (n : Int) (h : n < 1000000) : Clk.tick ⟨n, []⟩ = ⟨n + 1, []⟩ ∧ Clk.tickL ⟨n, []⟩ = [] ∧ Clk.tickE ⟨n, []⟩ = 0 := by
  have h0 : ¬ 1099511627776 ≤ n := by omega
  refine ⟨?_, ?_, ?_⟩
  · simp [Clk.tick, Clk.atEnd, h0]
  · simp [Clk.tickL, Clk.atEnd, h0, dueIds]
  · simp [Clk.tickE, Clk.atEnd, h0]
theorem nil_ok (n : Int) (h : 0 ≤ n) (h2 : n < 1000000) : Clk.Ok ⟨n, []⟩ := ⟨h, by show n ≤ _; omega, Nat.zero_le _, by simp⟩

set_option maxRecDepth 100000 in
set_option maxHeartbeats 8000000 in
theorem due_spec (W : World) (b0 : Int) (x : TaskR) (vs : Value) (ops : List OpR) (hS : RdO W vs ops) (t0 : Int) :
    Calls Try.prog 5 #[.int .i64 b0, .agg x.cells.toArray, vs, .int .i64 t0] W fun e w' => e = .returned (.bool true) ∧ Hd W [whole W] w' := by
  have H0 := (Hd.start W).alloc (.cells x.cells.toArray 29)
  simp only [TaskR.cells] at H0 ⊢
  obtain ⟨hb1, hb2⟩ := within_le (n := b0) (lo := 0) (hi := 60) (by decide)
  have hwb := fun w => within_spec (w := w) b0 0 60 (by decide) (by decide) (by decide)
  generalize within b0 0 60 = bf at hb1 hb2 hwb
  obtain ⟨hp1, hp2⟩ := within_le (n := x.p) (lo := 1) (hi := 40) (by decide)
  have hwp := fun w => within_spec (w := w) x.p 1 40 (by decide) (by decide) (by decide)
  generalize within x.p 1 40 = P at hp1 hp2 hwp
  obtain ⟨hf1, hf2⟩ := within_le (n := x.f) (lo := 1) (hi := 40) (by decide)
  have hwf := fun w => within_spec (w := w) x.f 1 40 (by decide) (by decide) (by decide)
  generalize within x.f 1 40 = F at hf1 hf2 hwf
  obtain ⟨ht1, ht2⟩ := within_le (n := t0) (lo := 0) (hi := 200) (by decide)
  have hwt := fun w => within_spec (w := w) t0 0 200 (by decide) (by decide) (by decide)
  generalize within t0 0 200 = TK at ht1 ht2 hwt
  obtain ⟨BF, rfl⟩ := Int.eq_ofNat_of_zero_le hb1
  obtain ⟨K, rfl⟩ := Int.eq_ofNat_of_zero_le ht1
  go_enter Try.func5, Try.ntmps5
  go_wp2_with fail
  refine (clkNew H0).mono ?_
  rintro e w1 ⟨c, rfl, H1⟩
  unfold pp
  clear H0
  go_wp2_with fail
  refine (hwb _).mono ?_
  rintro e v0 ⟨rfl, rfl⟩
  go_wp2_with fail
  go_loopw [10] (fun vi wr => ∃ i : Nat, i ≤ BF ∧ vi = .int .i64 i ∧ Hd W (Clock c ⟨(i : Int), []⟩ :: cel W.heap.size 29 #[.string x.nm, .int .i64 x.lv, .int .i64 x.fr, .slice x.na x.nl x.nc, .string x.cd, .int .i64 x.p, .int .i64 x.f, .int .i64 x.g] :: [whole W]) wr) (fun vi _ => BF - (intOf vi).toNat)
  case atStart => exact ⟨0, Nat.zero_le _, rfl, H1⟩
  case round =>
    obtain ⟨i, hi, rfl, HI⟩ := hrel
    clear H1
    by_cases hlt : i < BF
    · obtain ⟨q1, q2, q3⟩ := nil_ticks i (by omega)
      go_wp2_with fail
      refine (clkTick' HI (nil_ok _ (by omega) (by omega)) q1 q2 q3).mono ?_
      rintro e w2 ⟨a2, rfl, H2⟩
      go_wp2_with fail
      go_roundw
      case rel => exact ⟨i + 1, by omega, by go_num, H2.tail⟩
      case measure => simp [intOf]; omega
    · obtain rfl : i = BF := by omega
      have r1 := HI.b2.rd
      have f1 := HI.b2.fr
      obtain ⟨hd1, hd2, hd3⟩ := DueI.begin (bf := i) (P := P) (F := F) (by omega) (by omega) hp1 hp2 hf1 hf2
      have HA : Hd W (Clock c ⟨(i : Int), []⟩ :: cel W.heap.size 29 #[.string x.nm, .int .i64 x.lv, .int .i64 x.fr, .slice x.na x.nl x.nc, .string x.cd, .int .i64 P, .int .i64 F, .int .i64 0] :: [whole W]) _ := (((HI.b2.set 5 (.int .i64 P)).set 6 (.int .i64 F)).set 7 (.int .i64 0)).b2
      go_wp2_with fail
      refine (hwp _).mono ?_
      rintro e v1 ⟨rfl, rfl⟩
      go_wp2_with fail
      refine (hwf _).mono ?_
      rintro e v2 ⟨rfl, rfl⟩
      go_wp2_with fail
      refine (clkAdd' HA (nil_ok _ (by omega) (by omega)) _ _ _ _ _ _ _ P F 0 rfl hd2 hd3).mono ?_
      rintro e w3 ⟨rfl, H3⟩
      clear HI HA r1 f1 hd2 hd3 hwp hwf hwb
      have r3 := H3.b2.rd
      go_wp2_with fail
      refine (fewSpec (hS.keep H3.b3.below) 100 100 rfl (by decide)).mono ?_
      rintro e w4 ⟨vs', rfl, hS4, rfl⟩
      have hS5 := hS4 W hS
      have hS6 := hS5
      obtain ⟨A, cap, rfl, hSl, hSc, _⟩ := hS6
      clear hS4
      generalize ops.take 100 = sc at hS5 hSl hSc ⊢
      go_wp2_with fail
      refine (hwt _).mono ?_
      rintro e v4 ⟨rfl, rfl⟩
      clear r3 hwt
      go_wp2_with fail
      generalize Clk.add ⟨(i : Int), []⟩ P F 0 = m0 at hd1 H3
      go_loopw [13, 14] (fun vd vi wr => ∃ (k : Nat) (due : Int) (m : Clk), k ≤ K ∧ vd = .int .i64 due ∧ vi = .int .i64 k ∧ due ≤ i + k + 40 ∧ DueI m (i + k) P due ∧ Hd W (Clock c m :: cel W.heap.size 29 #[.string x.nm, .int .i64 x.lv, .int .i64 x.fr, .slice x.na x.nl x.nc, .string x.cd, .int .i64 P, .int .i64 F, .int .i64 0] :: [whole W]) wr) (fun _ vi _ => K - (intOf vi).toNat)
      case atStart => exact ⟨0, _, m0, Nat.zero_le _, rfl, rfl, by omega, by simpa using hd1, H3⟩
      case round =>
        obtain ⟨k, due, m, hk, rfl, rfl, hdb, hD, HK⟩ := hrel
        clear H3 hd1
        by_cases hlt : k < K
        · by_cases hks : k < sc.length
          · obtain ⟨y, hy⟩ : ∃ y, sc[k]? = some y := ⟨sc[k], List.getElem?_eq_getElem hks⟩
            obtain ⟨b, o, rfl, y0, y1, y2, y3, y4, y5, y6, y7, y8, y9⟩ := (hS5.keep HK.b3.below).at_ hy
            by_cases hk0 : y.kd = 0
            · have kd0 : (y.kd == 0) = true := by simp [hk0]
              clear hk0
              go_wp2_with fail
              refine (clkAdd' HK hD.ok _ _ _ _ _ _ _ _ _ _ rfl rfl rfl).mono ?_
              rintro e u0 ⟨rfl, HA0⟩
              have hDA := hD.add y.t.p y.t.f y.t.g
              go_wp2_with fail
              refine (clkNext' (id := 0) HA0 hDA.ok (hDA.next hp1)).mono ?_
              rintro e u1 ⟨rfl, rfl⟩
              have hlt3 := hDA.lt hp1
              by_cases hdue : due = (i : Int) + k + 1
              · obtain ⟨hT, hTE, rs, hTL, hpw, hrl⟩ := hDA.tick1 hp1 (by omega) hdue
                have hdd : ((i : Int) + k + 1 == due) = true := by simp [hdue]
                have hdu := Lib.hid hdue
                clear hdue
                go_wp2_with fail
                refine (clkTick' HA0 hDA.ok rfl hTL hTE).mono ?_
                rintro e u2 ⟨a2, rfl, H2⟩
                obtain ⟨g2, c2, hv2, HG⟩ := H2.slc_at (by simp)
                injection hv2 with hv2 hv3 hv4
                subst hv2 hv4
                clear hv3
                have k0 := HG.slcC_rd (j := 0) (u := .int .i64 0) rfl
                have hnow3 := Lib.hid hT.now_
                have hT' := Lib.hid (And.intro hTE hTL)
                clear hTE hTL
                go_wp2_with fail
                refine (clkNow' H2.tail).mono ?_
                rintro e u3 ⟨rfl, rfl⟩
                rw [hnow3.out]
                have bx := H2.tail.b2.rd
                go_wp2_with fail
                generalize hLL : (0 :: rs : List Int) = LL at *
                have hLe : LL.length = rs.length + 1 := by rw [← hLL]; simp
                have hLE := Lib.hid hLe
                clear hLL hLe k0
                go_loopw [20] (fun vj ww => ∃ (q n : Nat), (q = 0 ∨ q + 1 ≤ rs.length + 1) ∧ vj = .int .i64 ((q : Int) + 1) ∧ ww = u2.drewN n) (fun vj _ => rs.length + 1 + 1 - (intOf vj).toNat)
                case atStart => exact ⟨0, 0, .inl rfl, rfl, rfl⟩
                case round =>
                  obtain ⟨q, n, hq, rfl, rfl⟩ := hrel
                  by_cases hql : q + 1 < rs.length + 1
                  · have hlA : q + 1 < LL.length := by have := hLE.out; omega
                    have hpq := pair_at hpw hlA
                    have cA := HG.slcC_rd (ints_at (List.getElem?_eq_getElem hlA))
                    have cB := HG.slcC_rd (ints_at (List.getElem?_eq_getElem (show q < LL.length by omega)))
                    generalize LL[q + 1] = xa at hpq cA
                    generalize LL[q] = xb at hpq cB
                    have hdc : decide (xa ≤ xb) = false := decide_eq_false (by omega)
                    go_wp2_with (go_quiet (fail))
                    go_roundw
                    case rel => exact ⟨q + 1, _, .inr (by omega), by first | rfl | (congr 1; omega), by first | rfl | (rw [World.drewN_drewN])⟩
                    case measure => simp [intOf]; omega
                  · go_wp2_with fail
                    go_roundw
                    case rel =>
                      refine ⟨k + 1, due + P, _, by omega, rfl, by go_num, (by have := hdu.out; omega), ?_, H2.tail.drewN n⟩
                      have hTT := hT
                      rw [show (i : Int) + k + 1 = i + ((k + 1 : Nat) : Int) from by omega] at hTT
                      exact hTT
                    case measure => simp [intOf]; omega

              · obtain ⟨hT, hTE, rs, hTL, hpw, hrl, hge⟩ := hDA.tick0 (by omega) hdue
                have hdd : ((i : Int) + k + 1 == due) = false := by simpa using fun e => hdue e.symm
                clear hdue
                go_wp2_with fail
                refine (clkTick' HA0 hDA.ok rfl hTL hTE).mono ?_
                rintro e u2 ⟨a2, rfl, H2⟩
                have hnow3 := Lib.hid hT.now_
                have hT' := Lib.hid (And.intro hTE hTL)
                clear hTE hTL
                cases rs with
                | nil =>
                  go_wp2_with fail
                  refine (clkNow' H2.tail).mono ?_
                  rintro e u3 ⟨rfl, rfl⟩
                  rw [hnow3.out]
                  go_wp2_with fail
                  go_loopw [20] (fun vj ww => vj = .int .i64 1 ∧ ww = u2) (fun vj _ => 1)
                  case atStart => exact ⟨rfl, rfl⟩
                  case round =>
                    obtain ⟨rfl, rfl⟩ := hrel
                    go_wp2_with fail
                    go_roundw
                    case rel =>
                      refine ⟨k + 1, due, _, by omega, rfl, by go_num, by omega, ?_, H2.tail⟩
                      have hTT := hT
                      rw [show (i : Int) + k + 1 = i + ((k + 1 : Nat) : Int) from by omega] at hTT
                      exact hTT
                    case measure => simp [intOf]; omega
                | cons r0 rs =>
                  obtain ⟨g2, c2, hv2, HG⟩ := H2.slc_at (by simp)
                  injection hv2 with hv2 hv3 hv4
                  subst hv2 hv4
                  clear hv3
                  have k0 := HG.slcC_rd (j := 0) (u := .int .i64 r0) rfl
                  have hr0 := hge r0 List.mem_cons_self
                  have hr1 : (r0 == 0) = false := by simpa using by omega
                  clear hge
                  go_wp2_with fail
                  refine (clkNow' H2.tail).mono ?_
                  rintro e u3 ⟨rfl, rfl⟩
                  rw [hnow3.out]
                  go_wp2_with fail
                  generalize hLL : (r0 :: rs : List Int) = LL at *
                  have hLe : LL.length = rs.length + 1 := by rw [← hLL]; simp
                  have hLE := Lib.hid hLe
                  clear hLL hLe k0
                  go_loopw [20] (fun vj ww => ∃ (q n : Nat), (q = 0 ∨ q + 1 ≤ rs.length + 1) ∧ vj = .int .i64 ((q : Int) + 1) ∧ ww = u2.drewN n) (fun vj _ => rs.length + 1 + 1 - (intOf vj).toNat)
                  case atStart => exact ⟨0, 0, .inl rfl, rfl, rfl⟩
                  case round =>
                    obtain ⟨q, n, hq, rfl, rfl⟩ := hrel
                    by_cases hql : q + 1 < rs.length + 1
                    · have hlA : q + 1 < LL.length := by have := hLE.out; omega
                      have hpq := pair_at hpw hlA
                      have cA := HG.slcC_rd (ints_at (List.getElem?_eq_getElem hlA))
                      have cB := HG.slcC_rd (ints_at (List.getElem?_eq_getElem (show q < LL.length by omega)))
                      generalize LL[q + 1] = xa at hpq cA
                      generalize LL[q] = xb at hpq cB
                      have hdc : decide (xa ≤ xb) = false := decide_eq_false (by omega)
                      go_wp2_with (go_quiet (fail))
                      go_roundw
                      case rel => exact ⟨q + 1, _, .inr (by omega), by first | rfl | (congr 1; omega), by first | rfl | (rw [World.drewN_drewN])⟩
                      case measure => simp [intOf]; omega
                    · go_wp2_with fail
                      go_roundw
                      case rel =>
                        refine ⟨k + 1, due, _, by omega, rfl, by go_num, by omega, ?_, H2.tail.drewN n⟩
                        have hTT := hT
                        rw [show (i : Int) + k + 1 = i + ((k + 1 : Nat) : Int) from by omega] at hTT
                        exact hTT
                      case measure => simp [intOf]; omega
            · have kd0 : (y.kd == 0) = false := by simpa using hk0
              by_cases hk2 : y.kd = 2
              · have kd2 : (y.kd == 2) = true := by simp [hk2]
                clear hk0 hk2
                go_wp2_with fail
                refine (clkReady' (id := 0) HK hD.ok rfl).mono ?_
                rintro e u0 ⟨rfl, HA0⟩
                go_wp2_with fail
                refine (clkNext' (id := 0) HA0 hD.ok (hD.next hp1)).mono ?_
                rintro e u1 ⟨rfl, rfl⟩
                have hlt3 := hD.lt hp1
                by_cases hdue : due = (i : Int) + k + 1
                · obtain ⟨hT, hTE, rs, hTL, hpw, hrl⟩ := hD.tick1 hp1 (by omega) hdue
                  have hdd : ((i : Int) + k + 1 == due) = true := by simp [hdue]
                  have hdu := Lib.hid hdue
                  clear hdue
                  go_wp2_with fail
                  refine (clkTick' HA0 hD.ok rfl hTL hTE).mono ?_
                  rintro e u2 ⟨a2, rfl, H2⟩
                  obtain ⟨g2, c2, hv2, HG⟩ := H2.slc_at (by simp)
                  injection hv2 with hv2 hv3 hv4
                  subst hv2 hv4
                  clear hv3
                  have k0 := HG.slcC_rd (j := 0) (u := .int .i64 0) rfl
                  have hnow3 := Lib.hid hT.now_
                  have hT' := Lib.hid (And.intro hTE hTL)
                  clear hTE hTL
                  go_wp2_with fail
                  refine (clkNow' H2.tail).mono ?_
                  rintro e u3 ⟨rfl, rfl⟩
                  rw [hnow3.out]
                  have bx := H2.tail.b2.rd
                  go_wp2_with fail
                  generalize hLL : (0 :: rs : List Int) = LL at *
                  have hLe : LL.length = rs.length + 1 := by rw [← hLL]; simp
                  have hLE := Lib.hid hLe
                  clear hLL hLe k0
                  go_loopw [20] (fun vj ww => ∃ (q n : Nat), (q = 0 ∨ q + 1 ≤ rs.length + 1) ∧ vj = .int .i64 ((q : Int) + 1) ∧ ww = u2.drewN n) (fun vj _ => rs.length + 1 + 1 - (intOf vj).toNat)
                  case atStart => exact ⟨0, 0, .inl rfl, rfl, rfl⟩
                  case round =>
                    obtain ⟨q, n, hq, rfl, rfl⟩ := hrel
                    by_cases hql : q + 1 < rs.length + 1
                    · have hlA : q + 1 < LL.length := by have := hLE.out; omega
                      have hpq := pair_at hpw hlA
                      have cA := HG.slcC_rd (ints_at (List.getElem?_eq_getElem hlA))
                      have cB := HG.slcC_rd (ints_at (List.getElem?_eq_getElem (show q < LL.length by omega)))
                      generalize LL[q + 1] = xa at hpq cA
                      generalize LL[q] = xb at hpq cB
                      have hdc : decide (xa ≤ xb) = false := decide_eq_false (by omega)
                      go_wp2_with (go_quiet (fail))
                      go_roundw
                      case rel => exact ⟨q + 1, _, .inr (by omega), by first | rfl | (congr 1; omega), by first | rfl | (rw [World.drewN_drewN])⟩
                      case measure => simp [intOf]; omega
                    · go_wp2_with fail
                      go_roundw
                      case rel =>
                        refine ⟨k + 1, due + P, _, by omega, rfl, by go_num, (by have := hdu.out; omega), ?_, H2.tail.drewN n⟩
                        have hTT := hT
                        rw [show (i : Int) + k + 1 = i + ((k + 1 : Nat) : Int) from by omega] at hTT
                        exact hTT
                      case measure => simp [intOf]; omega

                · obtain ⟨hT, hTE, rs, hTL, hpw, hrl, hge⟩ := hD.tick0 (by omega) hdue
                  have hdd : ((i : Int) + k + 1 == due) = false := by simpa using fun e => hdue e.symm
                  clear hdue
                  go_wp2_with fail
                  refine (clkTick' HA0 hD.ok rfl hTL hTE).mono ?_
                  rintro e u2 ⟨a2, rfl, H2⟩
                  have hnow3 := Lib.hid hT.now_
                  have hT' := Lib.hid (And.intro hTE hTL)
                  clear hTE hTL
                  cases rs with
                  | nil =>
                    go_wp2_with fail
                    refine (clkNow' H2.tail).mono ?_
                    rintro e u3 ⟨rfl, rfl⟩
                    rw [hnow3.out]
                    go_wp2_with fail
                    go_loopw [20] (fun vj ww => vj = .int .i64 1 ∧ ww = u2) (fun vj _ => 1)
                    case atStart => exact ⟨rfl, rfl⟩
                    case round =>
                      obtain ⟨rfl, rfl⟩ := hrel
                      go_wp2_with fail
                      go_roundw
                      case rel =>
                        refine ⟨k + 1, due, _, by omega, rfl, by go_num, by omega, ?_, H2.tail⟩
                        have hTT := hT
                        rw [show (i : Int) + k + 1 = i + ((k + 1 : Nat) : Int) from by omega] at hTT
                        exact hTT
                      case measure => simp [intOf]; omega
                  | cons r0 rs =>
                    obtain ⟨g2, c2, hv2, HG⟩ := H2.slc_at (by simp)
                    injection hv2 with hv2 hv3 hv4
                    subst hv2 hv4
                    clear hv3
                    have k0 := HG.slcC_rd (j := 0) (u := .int .i64 r0) rfl
                    have hr0 := hge r0 List.mem_cons_self
                    have hr1 : (r0 == 0) = false := by simpa using by omega
                    clear hge
                    go_wp2_with fail
                    refine (clkNow' H2.tail).mono ?_
                    rintro e u3 ⟨rfl, rfl⟩
                    rw [hnow3.out]
                    go_wp2_with fail
                    generalize hLL : (r0 :: rs : List Int) = LL at *
                    have hLe : LL.length = rs.length + 1 := by rw [← hLL]; simp
                    have hLE := Lib.hid hLe
                    clear hLL hLe k0
                    go_loopw [20] (fun vj ww => ∃ (q n : Nat), (q = 0 ∨ q + 1 ≤ rs.length + 1) ∧ vj = .int .i64 ((q : Int) + 1) ∧ ww = u2.drewN n) (fun vj _ => rs.length + 1 + 1 - (intOf vj).toNat)
                    case atStart => exact ⟨0, 0, .inl rfl, rfl, rfl⟩
                    case round =>
                      obtain ⟨q, n, hq, rfl, rfl⟩ := hrel
                      by_cases hql : q + 1 < rs.length + 1
                      · have hlA : q + 1 < LL.length := by have := hLE.out; omega
                        have hpq := pair_at hpw hlA
                        have cA := HG.slcC_rd (ints_at (List.getElem?_eq_getElem hlA))
                        have cB := HG.slcC_rd (ints_at (List.getElem?_eq_getElem (show q < LL.length by omega)))
                        generalize LL[q + 1] = xa at hpq cA
                        generalize LL[q] = xb at hpq cB
                        have hdc : decide (xa ≤ xb) = false := decide_eq_false (by omega)
                        go_wp2_with (go_quiet (fail))
                        go_roundw
                        case rel => exact ⟨q + 1, _, .inr (by omega), by first | rfl | (congr 1; omega), by first | rfl | (rw [World.drewN_drewN])⟩
                        case measure => simp [intOf]; omega
                      · go_wp2_with fail
                        go_roundw
                        case rel =>
                          refine ⟨k + 1, due, _, by omega, rfl, by go_num, by omega, ?_, H2.tail.drewN n⟩
                          have hTT := hT
                          rw [show (i : Int) + k + 1 = i + ((k + 1 : Nat) : Int) from by omega] at hTT
                          exact hTT
                        case measure => simp [intOf]; omega
              · have kd2 : (y.kd == 2) = false := by simpa using hk2
                clear hk0 hk2
                go_wp2_with fail
                refine (clkNote' (id := 0) HK hD.ok rfl hD.noteE).mono ?_
                rintro e u0 ⟨rfl, HA0⟩
                have hDA := hD.note
                go_wp2_with fail
                refine (clkNext' (id := 0) HA0 hDA.ok (hDA.next hp1)).mono ?_
                rintro e u1 ⟨rfl, rfl⟩
                have hlt3 := hDA.lt hp1
                by_cases hdue : due = (i : Int) + k + 1
                · obtain ⟨hT, hTE, rs, hTL, hpw, hrl⟩ := hDA.tick1 hp1 (by omega) hdue
                  have hdd : ((i : Int) + k + 1 == due) = true := by simp [hdue]
                  have hdu := Lib.hid hdue
                  clear hdue
                  go_wp2_with fail
                  refine (clkTick' HA0 hDA.ok rfl hTL hTE).mono ?_
                  rintro e u2 ⟨a2, rfl, H2⟩
                  obtain ⟨g2, c2, hv2, HG⟩ := H2.slc_at (by simp)
                  injection hv2 with hv2 hv3 hv4
                  subst hv2 hv4
                  clear hv3
                  have k0 := HG.slcC_rd (j := 0) (u := .int .i64 0) rfl
                  have hnow3 := Lib.hid hT.now_
                  have hT' := Lib.hid (And.intro hTE hTL)
                  clear hTE hTL
                  go_wp2_with fail
                  refine (clkNow' H2.tail).mono ?_
                  rintro e u3 ⟨rfl, rfl⟩
                  rw [hnow3.out]
                  have bx := H2.tail.b2.rd
                  go_wp2_with fail
                  generalize hLL : (0 :: rs : List Int) = LL at *
                  have hLe : LL.length = rs.length + 1 := by rw [← hLL]; simp
                  have hLE := Lib.hid hLe
                  clear hLL hLe k0
                  go_loopw [20] (fun vj ww => ∃ (q n : Nat), (q = 0 ∨ q + 1 ≤ rs.length + 1) ∧ vj = .int .i64 ((q : Int) + 1) ∧ ww = u2.drewN n) (fun vj _ => rs.length + 1 + 1 - (intOf vj).toNat)
                  case atStart => exact ⟨0, 0, .inl rfl, rfl, rfl⟩
                  case round =>
                    obtain ⟨q, n, hq, rfl, rfl⟩ := hrel
                    by_cases hql : q + 1 < rs.length + 1
                    · have hlA : q + 1 < LL.length := by have := hLE.out; omega
                      have hpq := pair_at hpw hlA
                      have cA := HG.slcC_rd (ints_at (List.getElem?_eq_getElem hlA))
                      have cB := HG.slcC_rd (ints_at (List.getElem?_eq_getElem (show q < LL.length by omega)))
                      generalize LL[q + 1] = xa at hpq cA
                      generalize LL[q] = xb at hpq cB
                      have hdc : decide (xa ≤ xb) = false := decide_eq_false (by omega)
                      go_wp2_with (go_quiet (fail))
                      go_roundw
                      case rel => exact ⟨q + 1, _, .inr (by omega), by first | rfl | (congr 1; omega), by first | rfl | (rw [World.drewN_drewN])⟩
                      case measure => simp [intOf]; omega
                    · go_wp2_with fail
                      go_roundw
                      case rel =>
                        refine ⟨k + 1, due + P, _, by omega, rfl, by go_num, (by have := hdu.out; omega), ?_, H2.tail.drewN n⟩
                        have hTT := hT
                        rw [show (i : Int) + k + 1 = i + ((k + 1 : Nat) : Int) from by omega] at hTT
                        exact hTT
                      case measure => simp [intOf]; omega

                · obtain ⟨hT, hTE, rs, hTL, hpw, hrl, hge⟩ := hDA.tick0 (by omega) hdue
                  have hdd : ((i : Int) + k + 1 == due) = false := by simpa using fun e => hdue e.symm
                  clear hdue
                  go_wp2_with fail
                  refine (clkTick' HA0 hDA.ok rfl hTL hTE).mono ?_
                  rintro e u2 ⟨a2, rfl, H2⟩
                  have hnow3 := Lib.hid hT.now_
                  have hT' := Lib.hid (And.intro hTE hTL)
                  clear hTE hTL
                  cases rs with
                  | nil =>
                    go_wp2_with fail
                    refine (clkNow' H2.tail).mono ?_
                    rintro e u3 ⟨rfl, rfl⟩
                    rw [hnow3.out]
                    go_wp2_with fail
                    go_loopw [20] (fun vj ww => vj = .int .i64 1 ∧ ww = u2) (fun vj _ => 1)
                    case atStart => exact ⟨rfl, rfl⟩
                    case round =>
                      obtain ⟨rfl, rfl⟩ := hrel
                      go_wp2_with fail
                      go_roundw
                      case rel =>
                        refine ⟨k + 1, due, _, by omega, rfl, by go_num, by omega, ?_, H2.tail⟩
                        have hTT := hT
                        rw [show (i : Int) + k + 1 = i + ((k + 1 : Nat) : Int) from by omega] at hTT
                        exact hTT
                      case measure => simp [intOf]; omega
                  | cons r0 rs =>
                    obtain ⟨g2, c2, hv2, HG⟩ := H2.slc_at (by simp)
                    injection hv2 with hv2 hv3 hv4
                    subst hv2 hv4
                    clear hv3
                    have k0 := HG.slcC_rd (j := 0) (u := .int .i64 r0) rfl
                    have hr0 := hge r0 List.mem_cons_self
                    have hr1 : (r0 == 0) = false := by simpa using by omega
                    clear hge
                    go_wp2_with fail
                    refine (clkNow' H2.tail).mono ?_
                    rintro e u3 ⟨rfl, rfl⟩
                    rw [hnow3.out]
                    go_wp2_with fail
                    generalize hLL : (r0 :: rs : List Int) = LL at *
                    have hLe : LL.length = rs.length + 1 := by rw [← hLL]; simp
                    have hLE := Lib.hid hLe
                    clear hLL hLe k0
                    go_loopw [20] (fun vj ww => ∃ (q n : Nat), (q = 0 ∨ q + 1 ≤ rs.length + 1) ∧ vj = .int .i64 ((q : Int) + 1) ∧ ww = u2.drewN n) (fun vj _ => rs.length + 1 + 1 - (intOf vj).toNat)
                    case atStart => exact ⟨0, 0, .inl rfl, rfl, rfl⟩
                    case round =>
                      obtain ⟨q, n, hq, rfl, rfl⟩ := hrel
                      by_cases hql : q + 1 < rs.length + 1
                      · have hlA : q + 1 < LL.length := by have := hLE.out; omega
                        have hpq := pair_at hpw hlA
                        have cA := HG.slcC_rd (ints_at (List.getElem?_eq_getElem hlA))
                        have cB := HG.slcC_rd (ints_at (List.getElem?_eq_getElem (show q < LL.length by omega)))
                        generalize LL[q + 1] = xa at hpq cA
                        generalize LL[q] = xb at hpq cB
                        have hdc : decide (xa ≤ xb) = false := decide_eq_false (by omega)
                        go_wp2_with (go_quiet (fail))
                        go_roundw
                        case rel => exact ⟨q + 1, _, .inr (by omega), by first | rfl | (congr 1; omega), by first | rfl | (rw [World.drewN_drewN])⟩
                        case measure => simp [intOf]; omega
                      · go_wp2_with fail
                        go_roundw
                        case rel =>
                          refine ⟨k + 1, due, _, by omega, rfl, by go_num, by omega, ?_, H2.tail.drewN n⟩
                          have hTT := hT
                          rw [show (i : Int) + k + 1 = i + ((k + 1 : Nat) : Int) from by omega] at hTT
                          exact hTT
                        case measure => simp [intOf]; omega
          · go_wp2_with fail
            refine (clkNext' (id := 0) HK hD.ok (hD.next hp1)).mono ?_
            rintro e u1 ⟨rfl, rfl⟩
            have hlt3 := hD.lt hp1
            by_cases hdue : due = (i : Int) + k + 1
            · obtain ⟨hT, hTE, rs, hTL, hpw, hrl⟩ := hD.tick1 hp1 (by omega) hdue
              have hdd : ((i : Int) + k + 1 == due) = true := by simp [hdue]
              have hdu := Lib.hid hdue
              clear hdue
              go_wp2_with fail
              refine (clkTick' HK hD.ok rfl hTL hTE).mono ?_
              rintro e u2 ⟨a2, rfl, H2⟩
              obtain ⟨g2, c2, hv2, HG⟩ := H2.slc_at (by simp)
              injection hv2 with hv2 hv3 hv4
              subst hv2 hv4
              clear hv3
              have k0 := HG.slcC_rd (j := 0) (u := .int .i64 0) rfl
              have hnow3 := Lib.hid hT.now_
              have hT' := Lib.hid (And.intro hTE hTL)
              clear hTE hTL
              go_wp2_with fail
              refine (clkNow' H2.tail).mono ?_
              rintro e u3 ⟨rfl, rfl⟩
              rw [hnow3.out]
              have bx := H2.tail.b2.rd
              go_wp2_with fail
              generalize hLL : (0 :: rs : List Int) = LL at *
              have hLe : LL.length = rs.length + 1 := by rw [← hLL]; simp
              have hLE := Lib.hid hLe
              clear hLL hLe k0
              go_loopw [20] (fun vj ww => ∃ (q n : Nat), (q = 0 ∨ q + 1 ≤ rs.length + 1) ∧ vj = .int .i64 ((q : Int) + 1) ∧ ww = u2.drewN n) (fun vj _ => rs.length + 1 + 1 - (intOf vj).toNat)
              case atStart => exact ⟨0, 0, .inl rfl, rfl, rfl⟩
              case round =>
                obtain ⟨q, n, hq, rfl, rfl⟩ := hrel
                by_cases hql : q + 1 < rs.length + 1
                · have hlA : q + 1 < LL.length := by have := hLE.out; omega
                  have hpq := pair_at hpw hlA
                  have cA := HG.slcC_rd (ints_at (List.getElem?_eq_getElem hlA))
                  have cB := HG.slcC_rd (ints_at (List.getElem?_eq_getElem (show q < LL.length by omega)))
                  generalize LL[q + 1] = xa at hpq cA
                  generalize LL[q] = xb at hpq cB
                  have hdc : decide (xa ≤ xb) = false := decide_eq_false (by omega)
                  go_wp2_with (go_quiet (fail))
                  go_roundw
                  case rel => exact ⟨q + 1, _, .inr (by omega), by first | rfl | (congr 1; omega), by first | rfl | (rw [World.drewN_drewN])⟩
                  case measure => simp [intOf]; omega
                · go_wp2_with fail
                  go_roundw
                  case rel =>
                    refine ⟨k + 1, due + P, _, by omega, rfl, by go_num, (by have := hdu.out; omega), ?_, H2.tail.drewN n⟩
                    have hTT := hT
                    rw [show (i : Int) + k + 1 = i + ((k + 1 : Nat) : Int) from by omega] at hTT
                    exact hTT
                  case measure => simp [intOf]; omega

            · obtain ⟨hT, hTE, rs, hTL, hpw, hrl, hge⟩ := hD.tick0 (by omega) hdue
              have hdd : ((i : Int) + k + 1 == due) = false := by simpa using fun e => hdue e.symm
              clear hdue
              go_wp2_with fail
              refine (clkTick' HK hD.ok rfl hTL hTE).mono ?_
              rintro e u2 ⟨a2, rfl, H2⟩
              have hnow3 := Lib.hid hT.now_
              have hT' := Lib.hid (And.intro hTE hTL)
              clear hTE hTL
              cases rs with
              | nil =>
                go_wp2_with fail
                refine (clkNow' H2.tail).mono ?_
                rintro e u3 ⟨rfl, rfl⟩
                rw [hnow3.out]
                go_wp2_with fail
                go_loopw [20] (fun vj ww => vj = .int .i64 1 ∧ ww = u2) (fun vj _ => 1)
                case atStart => exact ⟨rfl, rfl⟩
                case round =>
                  obtain ⟨rfl, rfl⟩ := hrel
                  go_wp2_with fail
                  go_roundw
                  case rel =>
                    refine ⟨k + 1, due, _, by omega, rfl, by go_num, by omega, ?_, H2.tail⟩
                    have hTT := hT
                    rw [show (i : Int) + k + 1 = i + ((k + 1 : Nat) : Int) from by omega] at hTT
                    exact hTT
                  case measure => simp [intOf]; omega
              | cons r0 rs =>
                obtain ⟨g2, c2, hv2, HG⟩ := H2.slc_at (by simp)
                injection hv2 with hv2 hv3 hv4
                subst hv2 hv4
                clear hv3
                have k0 := HG.slcC_rd (j := 0) (u := .int .i64 r0) rfl
                have hr0 := hge r0 List.mem_cons_self
                have hr1 : (r0 == 0) = false := by simpa using by omega
                clear hge
                go_wp2_with fail
                refine (clkNow' H2.tail).mono ?_
                rintro e u3 ⟨rfl, rfl⟩
                rw [hnow3.out]
                go_wp2_with fail
                generalize hLL : (r0 :: rs : List Int) = LL at *
                have hLe : LL.length = rs.length + 1 := by rw [← hLL]; simp
                have hLE := Lib.hid hLe
                clear hLL hLe k0
                go_loopw [20] (fun vj ww => ∃ (q n : Nat), (q = 0 ∨ q + 1 ≤ rs.length + 1) ∧ vj = .int .i64 ((q : Int) + 1) ∧ ww = u2.drewN n) (fun vj _ => rs.length + 1 + 1 - (intOf vj).toNat)
                case atStart => exact ⟨0, 0, .inl rfl, rfl, rfl⟩
                case round =>
                  obtain ⟨q, n, hq, rfl, rfl⟩ := hrel
                  by_cases hql : q + 1 < rs.length + 1
                  · have hlA : q + 1 < LL.length := by have := hLE.out; omega
                    have hpq := pair_at hpw hlA
                    have cA := HG.slcC_rd (ints_at (List.getElem?_eq_getElem hlA))
                    have cB := HG.slcC_rd (ints_at (List.getElem?_eq_getElem (show q < LL.length by omega)))
                    generalize LL[q + 1] = xa at hpq cA
                    generalize LL[q] = xb at hpq cB
                    have hdc : decide (xa ≤ xb) = false := decide_eq_false (by omega)
                    go_wp2_with (go_quiet (fail))
                    go_roundw
                    case rel => exact ⟨q + 1, _, .inr (by omega), by first | rfl | (congr 1; omega), by first | rfl | (rw [World.drewN_drewN])⟩
                    case measure => simp [intOf]; omega
                  · go_wp2_with fail
                    go_roundw
                    case rel =>
                      refine ⟨k + 1, due, _, by omega, rfl, by go_num, by omega, ?_, H2.tail.drewN n⟩
                      have hTT := hT
                      rw [show (i : Int) + k + 1 = i + ((k + 1 : Nat) : Int) from by omega] at hTT
                      exact hTT
                    case measure => simp [intOf]; omega
        · go_wp2_with fail
          refine (runs_spec HK).mono ?_
          rintro e w9 ⟨rfl, H9⟩
          go_wp2_with fail
          go_ret
          exact ⟨rfl, H9.tail.tail⟩
end Go.Proofs.Ytdppdmmcnlmdgaa
