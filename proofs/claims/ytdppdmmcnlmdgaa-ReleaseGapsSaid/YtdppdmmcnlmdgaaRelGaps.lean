/-
  ReleaseGaps walked: whatever gap, whatever is asked.
-/
import Derived.Test.YtdppdmmcnlmdgaaRel6
namespace Go.Proofs.Ytdppdmmcnlmdgaa
open Go.RowKit Spl

def gapC (now gap lst : Int) (has : Bool) : Clk := ⟨now, [⟨0, gap, 0, lst, has⟩]⟩
def gapL (gap lst : Int) (has : Bool) : Int := match has with | true => lst | false => -gap
theorem gapC_ok {now gap lst : Int} {has : Bool} (a : 0 ≤ now) (b : now ≤ 100000) (c : 1 ≤ gap) (d : gap ≤ 30) (e : 0 ≤ lst) (f : lst ≤ now) : (gapC now gap lst has).Ok :=
  ⟨a, by show now ≤ _; omega, by show 1 ≤ 64; decide, fun p hp => by
    obtain rfl := List.mem_singleton.1 hp
    exact ⟨Int.le_refl 0, by show (0 : Int) ≤ _; decide, by show 0 ≤ gap; omega, by show gap ≤ _; omega, Int.le_refl 0, by show 0 ≤ now + _; omega, fun h => absurd h (by show ¬ (0 : Int) < 0; decide), e, f⟩⟩
theorem gap_add (gap : Int) (h : 1 ≤ gap) (h2 : gap ≤ 30) : Clk.add ⟨0, []⟩ 0 0 gap = gapC 0 gap 0 false ∧ Clk.addN ⟨0, []⟩ 0 0 gap = 0 ∧ Clk.addE ⟨0, []⟩ 0 0 gap = 0 := by
  have ht : timesOk 0 0 gap = true := timesOk_iff.2 ⟨⟨by decide, by decide⟩, ⟨by decide, by decide⟩, ⟨by omega, by omega⟩, .inl rfl, Iff.rfl⟩
  refine ⟨?_, ?_, ?_⟩
  · simp [Clk.add, Clk.full, ht, gapC]
  · simp [Clk.addN, Clk.full, ht]
  · simp [Clk.addE, Clk.full, ht]
theorem gap_tick (now gap lst : Int) (has : Bool) (h : now < 1000000) : (gapC now gap lst has).tick = gapC (now + 1) gap lst has := by
  have h' : ¬ 1099511627776 ≤ now := by omega
  simp [Clk.tick, Clk.atEnd, gapC, h', Pat.tick, Pat.isDue]
theorem gap_tickL (now gap lst : Int) (has : Bool) (h : now < 1000000) : (gapC now gap lst has).tickL = [] := by
  have h' : ¬ 1099511627776 ≤ now := by omega
  simp [Clk.tickL, Clk.atEnd, gapC, h', dueIds, Pat.isDue]
theorem gap_tickE (now gap lst : Int) (has : Bool) (h : now < 1000000) : (gapC now gap lst has).tickE = 0 := by
  have h' : ¬ 1099511627776 ≤ now := by omega
  simp [Clk.tickE, Clk.atEnd, gapC, h']
theorem gap_last (now gap lst : Int) (has : Bool) : (gapC now gap lst has).last 0 = ((match has with | true => lst | false => 0), has) := by cases has <;> rfl
theorem gap_ready0 {now gap lst : Int} {has : Bool} (hg : 1 ≤ gap) (hn : 0 ≤ now) (h : gap ≤ now - gapL gap lst has) : (gapC now gap lst has).ready 0 = 0 := by
  cases has with
  | false => rfl
  | true =>
    have h' : ¬ now - lst < gap := by simp only [gapL] at h; omega
    simp [Clk.ready, Clk.at?, gapC, Clk.readyP, h']
theorem gap_ready1 {now gap lst : Int} {has : Bool} (hn : 0 ≤ now) (h : ¬ gap ≤ now - gapL gap lst has) : (gapC now gap lst has).ready 0 = 41 ∧ has = true := by
  cases has with
  | false => simp [gapL] at h; omega
  | true =>
    have h' : now - lst < gap := by simp only [gapL] at h; omega
    exact ⟨by simp [Clk.ready, Clk.at?, gapC, Clk.readyP, h'], rfl⟩

set_option maxRecDepth 100000 in
set_option maxHeartbeats 4000000 in
theorem gaps_spec (W : World) (g0 : Int) (va : Value) (xs : List Int) (ha : Rds W va (ints xs)) :
    Calls Try.prog 6 #[.int .i64 g0, va] W fun e w' => e = .returned (.bool true) ∧ Hd W [whole W] w' := by
  have hR' := ha
  obtain ⟨A, ca, rfl, hA, _⟩ := ha
  rw [ints_len] at hA
  rw [ints_len]
  obtain ⟨hg1, hg2⟩ := within_le (n := g0) (lo := 1) (hi := 30) (by decide)
  have hw := fun w => within_spec (w := w) g0 1 30 (by decide) (by decide) (by decide)
  generalize within g0 1 30 = gap at hg1 hg2 hw
  have hR := hR'
  clear hR'
  obtain ⟨ha1, ha2, ha3⟩ := gap_add gap hg1 hg2
  go_enter Try.func6, Try.ntmps6
  go_wp2_with (go_at_call 8; refine (clkNew (Hd.start W)).mono ?_; rintro e w1 ⟨c, rfl, H1⟩; unfold pp)
  go_wp2_with fail
  refine (hw _).mono ?_
  rintro e v0 ⟨rfl, rfl⟩
  go_wp2_with fail
  refine (clkAdd' H1 Clk.Ok.new _ _ _ _ _ _ _ 0 0 gap ha1 ha2 ha3).mono ?_
  rintro e w2 ⟨rfl, H2⟩
  clear H1 ha1 ha2 ha3 hw
  go_wp2_with fail
  go_loopw [8, 9] (fun vl vi wr => ∃ (k : Nat) (now lst : Int) (has : Bool), k ≤ 200 ∧ vi = .int .i64 k ∧ 0 ≤ now ∧ now ≤ 9 * k ∧ 0 ≤ lst ∧ lst ≤ now ∧ vl = .int .i64 (gapL gap lst has) ∧ Hd W [Clock c (gapC now gap lst has), whole W] wr) (fun _ vi _ => 200 - (intOf vi).toNat)
  case atStart => exact ⟨0, 0, 0, false, by decide, rfl, by decide, by decide, by decide, by decide, rfl, H2⟩
  case round =>
    obtain ⟨k, now, lst, has, hk, rfl, hn0, hn1, hl0, hl1, rfl, HK⟩ := hrel
    clear H2
    have hok0 := hl1
    by_cases hlt : k < xs.length
    · by_cases hlt2 : k < 200
      · have hx : xs[k]? = some xs[k] := List.getElem?_eq_getElem hlt
        generalize xs[k] = x at hx
        cases has with
        | false =>
          have eL : gapL gap lst false = -gap := rfl
          rw [eL]
          clear eL
          have hok : (gapC now gap lst false).Ok := gapC_ok hn0 (by omega) hg1 hg2 hl0 hl1
          have cx : ∀ {ww : World}, Hd W [Clock c (gapC now gap lst false), whole W] ww → ∃ b o, A = some ⟨b, o, none⟩ ∧ ww.cell? ⟨b, o + k, none⟩ = some (.int .i64 x) := fun h => by
            obtain ⟨A', ca', hv, _, hc⟩ := Rds.keep hR h.b2.below
            rw [ints_len] at hv hc
            injection hv with hv1 hv2 hv3
            subst hv1
            obtain ⟨b, o, hA', hcell⟩ := hc (by omega)
            exact ⟨b, o, hA', hcell k _ (ints_at hx)⟩
          have hd1 : decide (gap ≤ now + gap) = true := decide_eq_true (by omega)

          go_wp2_with fail
          refine (clkReady' (id := 0) HK hok (r := 0) (gap_ready0 hg1 hn0 (by simp only [gapL]; omega))).mono ?_
          rintro e w4 ⟨rfl, H4⟩
          obtain ⟨b, o, rfl, cx1⟩ := cx H4
          clear cx
          go_wp2_with fail
          refine (clkNow' H4).mono ?_
          rintro e w5 ⟨rfl, rfl⟩
          have en : (gapC now gap lst false).now = now := rfl
          rw [en]
          clear en
          by_cases h3 : x.tmod 3 = 0
          · have h3' : (x.tmod 3 != 0) = false := by simp [h3]
            clear h3
            go_wp2_with fail
            refine (within_spec x 0 9 (by decide) (by decide) (by decide)).mono ?_
            rintro e v2 ⟨rfl, rfl⟩
            obtain ⟨hq0, hq9⟩ := within_le (n := x) (lo := 0) (hi := 9) (by decide)
            generalize within x 0 9 = q at hq0 hq9 ⊢
            obtain ⟨Q, rfl⟩ := Int.eq_ofNat_of_zero_le hq0
            go_wp2_with fail
            go_loopw [11] (fun n ww => ∃ j : Nat, j ≤ Q ∧ n = .int .i64 ((Q : Int) - j) ∧ Hd W [Clock c (gapC (now + j) gap lst false), whole W] ww) (fun n _ => (intOf n).toNat)
            case atStart => exact ⟨0, Nat.zero_le _, by simp, by simpa using H4⟩
            case round =>
              obtain ⟨j, hj, rfl, HJ⟩ := hrel
              by_cases hjq : j < Q
              · have okj : (gapC (now + j) gap lst false).Ok := gapC_ok (by omega) (by omega) (by omega) (by omega) (by omega) (by omega)
                have h0 : (0 : Int) < (Q : Int) - j := by omega
                go_wp2_with fail
                refine (clkTick' HJ okj (m' := gapC (now + j + 1) gap lst false) (l := []) (er := 0) (gap_tick _ _ _ _ (by omega)) (gap_tickL _ _ _ _ (by omega)) (gap_tickE _ _ _ _ (by omega))).mono ?_
                rintro e v3 ⟨a3, rfl, H3⟩
                go_wp2_with fail
                go_roundw
                case rel => exact ⟨j + 1, by omega, by first | go_num | (congr 1; omega), by have := H3.tail; rw [show now + (j : Int) + 1 = now + ((j + 1 : Nat) : Int) from by omega] at this; exact this⟩
                case measure => simp [intOf]; omega
              · obtain rfl : j = Q := by omega
                have okj : (gapC (now + j) gap lst false).Ok := gapC_ok (by omega) (by omega) (by omega) (by omega) (by omega) (by omega)
                have h0 : ¬ (0 : Int) < (j : Int) - j := by omega
                go_wp2_with fail
                refine (clkLast' (id := 0) HJ okj (r := 0) (b := false) (gap_last _ _ _ _)).mono ?_
                rintro e v4 ⟨rfl, rfl⟩
                
                go_wp2_with fail
                go_roundw
                case rel => exact ⟨k + 1, _, _, _, by omega, by go_num, by omega, by omega, by omega, by omega, rfl, HJ⟩
                case measure => simp [intOf]; omega
          · have h3' : (x.tmod 3 != 0) = true := by simpa using h3
            clear h3
            go_wp2_with fail
            refine (clkNote' (id := 0) H4 hok (m' := gapC now gap now true) (r := 0) rfl rfl).mono ?_
            rintro e w6 ⟨rfl, H6⟩
            obtain ⟨b', o', hbo, cx2⟩ : ∃ b' o', (⟨b, o, none⟩ : Addr) = ⟨b', o', none⟩ ∧ w6.cell? ⟨b', o' + k, none⟩ = some (.int .i64 x) := by
              obtain ⟨A', ca', hv, _, hc⟩ := Rds.keep hR H6.b2.below
              rw [ints_len] at hv hc
              injection hv with hv1 hv2 hv3
              subst hv1
              obtain ⟨b', o', hA', hcell⟩ := hc (by omega)
              exact ⟨b', o', by injection hA', hcell k _ (ints_at hx)⟩
            injection hbo with hb1 hb2 _
            subst hb1 hb2
            go_wp2_with fail
            refine (clkNow' H6).mono ?_
            rintro e w7 ⟨rfl, rfl⟩
            have en : (gapC now gap now true).now = now := rfl
            rw [en]
            clear en
            go_wp2_with fail
            refine (within_spec x 0 9 (by decide) (by decide) (by decide)).mono ?_
            rintro e v2 ⟨rfl, rfl⟩
            obtain ⟨hq0, hq9⟩ := within_le (n := x) (lo := 0) (hi := 9) (by decide)
            generalize within x 0 9 = q at hq0 hq9 ⊢
            obtain ⟨Q, rfl⟩ := Int.eq_ofNat_of_zero_le hq0
            go_wp2_with fail
            go_loopw [11] (fun n ww => ∃ j : Nat, j ≤ Q ∧ n = .int .i64 ((Q : Int) - j) ∧ Hd W [Clock c (gapC (now + j) gap now true), whole W] ww) (fun n _ => (intOf n).toNat)
            case atStart => exact ⟨0, Nat.zero_le _, by simp, by simpa using H6⟩
            case round =>
              obtain ⟨j, hj, rfl, HJ⟩ := hrel
              by_cases hjq : j < Q
              · have okj : (gapC (now + j) gap now true).Ok := gapC_ok (by omega) (by omega) (by omega) (by omega) (by omega) (by omega)
                have h0 : (0 : Int) < (Q : Int) - j := by omega
                go_wp2_with fail
                refine (clkTick' HJ okj (m' := gapC (now + j + 1) gap now true) (l := []) (er := 0) (gap_tick _ _ _ _ (by omega)) (gap_tickL _ _ _ _ (by omega)) (gap_tickE _ _ _ _ (by omega))).mono ?_
                rintro e v3 ⟨a3, rfl, H3⟩
                go_wp2_with fail
                go_roundw
                case rel => exact ⟨j + 1, by omega, by first | go_num | (congr 1; omega), by have := H3.tail; rw [show now + (j : Int) + 1 = now + ((j + 1 : Nat) : Int) from by omega] at this; exact this⟩
                case measure => simp [intOf]; omega
              · obtain rfl : j = Q := by omega
                have okj : (gapC (now + j) gap now true).Ok := gapC_ok (by omega) (by omega) (by omega) (by omega) (by omega) (by omega)
                have h0 : ¬ (0 : Int) < (j : Int) - j := by omega
                go_wp2_with fail
                refine (clkLast' (id := 0) HJ okj (r := now) (b := true) (gap_last _ _ _ _)).mono ?_
                rintro e v4 ⟨rfl, rfl⟩
                
                go_wp2_with fail
                go_roundw
                case rel => exact ⟨k + 1, _, _, _, by omega, by go_num, by omega, by omega, by omega, by omega, rfl, HJ⟩
                case measure => simp [intOf]; omega
        | true =>
          have eL : gapL gap lst true = lst := rfl
          rw [eL]
          clear eL
          have hok : (gapC now gap lst true).Ok := gapC_ok hn0 (by omega) hg1 hg2 hl0 hl1
          have cx : ∀ {ww : World}, Hd W [Clock c (gapC now gap lst true), whole W] ww → ∃ b o, A = some ⟨b, o, none⟩ ∧ ww.cell? ⟨b, o + k, none⟩ = some (.int .i64 x) := fun h => by
            obtain ⟨A', ca', hv, _, hc⟩ := Rds.keep hR h.b2.below
            rw [ints_len] at hv hc
            injection hv with hv1 hv2 hv3
            subst hv1
            obtain ⟨b, o, hA', hcell⟩ := hc (by omega)
            exact ⟨b, o, hA', hcell k _ (ints_at hx)⟩
          by_cases hready : gap ≤ now - lst
          · go_wp2_with fail
            refine (clkReady' (id := 0) HK hok (r := 0) (gap_ready0 hg1 hn0 (by simp only [gapL]; omega))).mono ?_
            rintro e w4 ⟨rfl, H4⟩
            obtain ⟨b, o, rfl, cx1⟩ := cx H4
            clear cx
            go_wp2_with fail
            refine (clkNow' H4).mono ?_
            rintro e w5 ⟨rfl, rfl⟩
            have en : (gapC now gap lst true).now = now := rfl
            rw [en]
            clear en
            by_cases h3 : x.tmod 3 = 0
            · have h3' : (x.tmod 3 != 0) = false := by simp [h3]
              clear h3
              go_wp2_with fail
              refine (within_spec x 0 9 (by decide) (by decide) (by decide)).mono ?_
              rintro e v2 ⟨rfl, rfl⟩
              obtain ⟨hq0, hq9⟩ := within_le (n := x) (lo := 0) (hi := 9) (by decide)
              generalize within x 0 9 = q at hq0 hq9 ⊢
              obtain ⟨Q, rfl⟩ := Int.eq_ofNat_of_zero_le hq0
              go_wp2_with fail
              go_loopw [11] (fun n ww => ∃ j : Nat, j ≤ Q ∧ n = .int .i64 ((Q : Int) - j) ∧ Hd W [Clock c (gapC (now + j) gap lst true), whole W] ww) (fun n _ => (intOf n).toNat)
              case atStart => exact ⟨0, Nat.zero_le _, by simp, by simpa using H4⟩
              case round =>
                obtain ⟨j, hj, rfl, HJ⟩ := hrel
                by_cases hjq : j < Q
                · have okj : (gapC (now + j) gap lst true).Ok := gapC_ok (by omega) (by omega) (by omega) (by omega) (by omega) (by omega)
                  have h0 : (0 : Int) < (Q : Int) - j := by omega
                  go_wp2_with fail
                  refine (clkTick' HJ okj (m' := gapC (now + j + 1) gap lst true) (l := []) (er := 0) (gap_tick _ _ _ _ (by omega)) (gap_tickL _ _ _ _ (by omega)) (gap_tickE _ _ _ _ (by omega))).mono ?_
                  rintro e v3 ⟨a3, rfl, H3⟩
                  go_wp2_with fail
                  go_roundw
                  case rel => exact ⟨j + 1, by omega, by first | go_num | (congr 1; omega), by have := H3.tail; rw [show now + (j : Int) + 1 = now + ((j + 1 : Nat) : Int) from by omega] at this; exact this⟩
                  case measure => simp [intOf]; omega
                · obtain rfl : j = Q := by omega
                  have okj : (gapC (now + j) gap lst true).Ok := gapC_ok (by omega) (by omega) (by omega) (by omega) (by omega) (by omega)
                  have h0 : ¬ (0 : Int) < (j : Int) - j := by omega
                  go_wp2_with fail
                  refine (clkLast' (id := 0) HJ okj (r := lst) (b := true) (gap_last _ _ _ _)).mono ?_
                  rintro e v4 ⟨rfl, rfl⟩
                  
                  go_wp2_with fail
                  go_roundw
                  case rel => exact ⟨k + 1, _, _, _, by omega, by go_num, by omega, by omega, by omega, by omega, rfl, HJ⟩
                  case measure => simp [intOf]; omega
            · have h3' : (x.tmod 3 != 0) = true := by simpa using h3
              clear h3
              go_wp2_with fail
              refine (clkNote' (id := 0) H4 hok (m' := gapC now gap now true) (r := 0) rfl rfl).mono ?_
              rintro e w6 ⟨rfl, H6⟩
              obtain ⟨b', o', hbo, cx2⟩ : ∃ b' o', (⟨b, o, none⟩ : Addr) = ⟨b', o', none⟩ ∧ w6.cell? ⟨b', o' + k, none⟩ = some (.int .i64 x) := by
                obtain ⟨A', ca', hv, _, hc⟩ := Rds.keep hR H6.b2.below
                rw [ints_len] at hv hc
                injection hv with hv1 hv2 hv3
                subst hv1
                obtain ⟨b', o', hA', hcell⟩ := hc (by omega)
                exact ⟨b', o', by injection hA', hcell k _ (ints_at hx)⟩
              injection hbo with hb1 hb2 _
              subst hb1 hb2
              go_wp2_with fail
              refine (clkNow' H6).mono ?_
              rintro e w7 ⟨rfl, rfl⟩
              have en : (gapC now gap now true).now = now := rfl
              rw [en]
              clear en
              go_wp2_with fail
              refine (within_spec x 0 9 (by decide) (by decide) (by decide)).mono ?_
              rintro e v2 ⟨rfl, rfl⟩
              obtain ⟨hq0, hq9⟩ := within_le (n := x) (lo := 0) (hi := 9) (by decide)
              generalize within x 0 9 = q at hq0 hq9 ⊢
              obtain ⟨Q, rfl⟩ := Int.eq_ofNat_of_zero_le hq0
              go_wp2_with fail
              go_loopw [11] (fun n ww => ∃ j : Nat, j ≤ Q ∧ n = .int .i64 ((Q : Int) - j) ∧ Hd W [Clock c (gapC (now + j) gap now true), whole W] ww) (fun n _ => (intOf n).toNat)
              case atStart => exact ⟨0, Nat.zero_le _, by simp, by simpa using H6⟩
              case round =>
                obtain ⟨j, hj, rfl, HJ⟩ := hrel
                by_cases hjq : j < Q
                · have okj : (gapC (now + j) gap now true).Ok := gapC_ok (by omega) (by omega) (by omega) (by omega) (by omega) (by omega)
                  have h0 : (0 : Int) < (Q : Int) - j := by omega
                  go_wp2_with fail
                  refine (clkTick' HJ okj (m' := gapC (now + j + 1) gap now true) (l := []) (er := 0) (gap_tick _ _ _ _ (by omega)) (gap_tickL _ _ _ _ (by omega)) (gap_tickE _ _ _ _ (by omega))).mono ?_
                  rintro e v3 ⟨a3, rfl, H3⟩
                  go_wp2_with fail
                  go_roundw
                  case rel => exact ⟨j + 1, by omega, by first | go_num | (congr 1; omega), by have := H3.tail; rw [show now + (j : Int) + 1 = now + ((j + 1 : Nat) : Int) from by omega] at this; exact this⟩
                  case measure => simp [intOf]; omega
                · obtain rfl : j = Q := by omega
                  have okj : (gapC (now + j) gap now true).Ok := gapC_ok (by omega) (by omega) (by omega) (by omega) (by omega) (by omega)
                  have h0 : ¬ (0 : Int) < (j : Int) - j := by omega
                  go_wp2_with fail
                  refine (clkLast' (id := 0) HJ okj (r := now) (b := true) (gap_last _ _ _ _)).mono ?_
                  rintro e v4 ⟨rfl, rfl⟩
                  
                  go_wp2_with fail
                  go_roundw
                  case rel => exact ⟨k + 1, _, _, _, by omega, by go_num, by omega, by omega, by omega, by omega, rfl, HJ⟩
                  case measure => simp [intOf]; omega
          · go_wp2_with fail
            refine (clkReady' (id := 0) HK hok (r := 41) (gap_ready1 hn0 (by simp only [gapL]; omega)).1).mono ?_
            rintro e w4 ⟨rfl, H4⟩
            obtain ⟨b, o, rfl, cx1⟩ := cx H4
            clear cx
            go_wp2_with fail
            refine (clkNow' H4).mono ?_
            rintro e w5 ⟨rfl, rfl⟩
            have en : (gapC now gap lst true).now = now := rfl
            rw [en]
            clear en
            go_wp2_with fail
            refine (within_spec x 0 9 (by decide) (by decide) (by decide)).mono ?_
            rintro e v2 ⟨rfl, rfl⟩
            obtain ⟨hq0, hq9⟩ := within_le (n := x) (lo := 0) (hi := 9) (by decide)
            generalize within x 0 9 = q at hq0 hq9 ⊢
            obtain ⟨Q, rfl⟩ := Int.eq_ofNat_of_zero_le hq0
            go_wp2_with fail
            go_loopw [11] (fun n ww => ∃ j : Nat, j ≤ Q ∧ n = .int .i64 ((Q : Int) - j) ∧ Hd W [Clock c (gapC (now + j) gap lst true), whole W] ww) (fun n _ => (intOf n).toNat)
            case atStart => exact ⟨0, Nat.zero_le _, by simp, by simpa using H4⟩
            case round =>
              obtain ⟨j, hj, rfl, HJ⟩ := hrel
              by_cases hjq : j < Q
              · have okj : (gapC (now + j) gap lst true).Ok := gapC_ok (by omega) (by omega) (by omega) (by omega) (by omega) (by omega)
                have h0 : (0 : Int) < (Q : Int) - j := by omega
                go_wp2_with fail
                refine (clkTick' HJ okj (m' := gapC (now + j + 1) gap lst true) (l := []) (er := 0) (gap_tick _ _ _ _ (by omega)) (gap_tickL _ _ _ _ (by omega)) (gap_tickE _ _ _ _ (by omega))).mono ?_
                rintro e v3 ⟨a3, rfl, H3⟩
                go_wp2_with fail
                go_roundw
                case rel => exact ⟨j + 1, by omega, by first | go_num | (congr 1; omega), by have := H3.tail; rw [show now + (j : Int) + 1 = now + ((j + 1 : Nat) : Int) from by omega] at this; exact this⟩
                case measure => simp [intOf]; omega
              · obtain rfl : j = Q := by omega
                have okj : (gapC (now + j) gap lst true).Ok := gapC_ok (by omega) (by omega) (by omega) (by omega) (by omega) (by omega)
                have h0 : ¬ (0 : Int) < (j : Int) - j := by omega
                go_wp2_with fail
                refine (clkLast' (id := 0) HJ okj (r := lst) (b := true) (gap_last _ _ _ _)).mono ?_
                rintro e v4 ⟨rfl, rfl⟩
                
                go_wp2_with fail
                go_roundw
                case rel => exact ⟨k + 1, _, _, _, by omega, by go_num, by omega, by omega, by omega, by omega, rfl, HJ⟩
                case measure => simp [intOf]; omega
      · go_wp2_with fail
        refine (runs_spec HK).mono ?_
        rintro e w9 ⟨rfl, H9⟩
        go_wp2_with fail
        go_ret
        exact ⟨rfl, H9.tail⟩
    · go_wp2_with fail
      refine (runs_spec HK).mono ?_
      rintro e w9 ⟨rfl, H9⟩
      go_wp2_with fail
      go_ret
      exact ⟨rfl, H9.tail⟩
end Go.Proofs.Ytdppdmmcnlmdgaa
