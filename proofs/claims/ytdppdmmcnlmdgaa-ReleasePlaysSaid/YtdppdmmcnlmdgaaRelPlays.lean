/-
  ReleasePlays walked: the clock and the document's answer alike, call by call; the lists that were handed out stay.
-/
import Derived.Test.YtdppdmmcnlmdgaaRel7
import Derived.Test.YtdppdmmcnlmdgaaRef10f
import Derived.Test.YtdppdmmcnlmdgaaBook4
import Derived.Test.YtdppdmmcnlmdgaaRelRunsP
import Derived.Test.YtdppdmmcnlmdgaaAuto
namespace Go.Proofs.Ytdppdmmcnlmdgaa
open Go.RowKit Spl

theorem BookP.new {w0 w : World} {R : List Pr} {b : Nat} (H : Hd w0 (pt b (.cells #[.slice none 0 0, .slice none 0 0, .int .i64 0, .bool false] 48) :: R) w) : Hd w0 (BookP b 0 :: R) w :=
  BookP.shut ⟨.slice none 0 0, .slice none 0 0, [], [], [], 0⟩ ⟨rfl, rfl, rfl, Int.le_refl _, Int.le_refl _, fun _ _ _ h => by simp at h⟩ ((((H.all_nil).all_nil).slc_nil _ 1).slc_nil _ 1).b5
theorem RClock.new {w0 w : World} {R : List Pr} {b : Nat} (H : Hd w0 (pt b (.cells #[.int .i64 0, .slice none 0 0] 45) :: R) w) : Hd w0 (RClock b ⟨0, []⟩ :: R) w :=
  RClock.shut (H.slc_nil _ 10).b2

theorem tickL_le {m : Clk} (h : m.Ok) : m.tickL.length ≤ 64 := by
  have h1 := h.len
  unfold Clk.tickL
  split
  · simp
  · have := dueIds_length (m.now + 1) m.l 0; omega
set_option maxRecDepth 100000 in
set_option maxHeartbeats 16000000 in
theorem plays_spec (W : World) (vs : Value) (ops : List OpR) (hS : RdO W vs ops) :
    Calls Try.prog 4 #[vs] W fun e w' => e = .returned (.bool true) ∧ Hd W [whole W] w' := by
  have H0 := Hd.start W
  go_enter Try.func4, Try.ntmps4
  go_wp2_with fail
  refine (fewSpec hS 200 200 rfl (by decide)).mono ?_
  rintro e w1 ⟨vs', rfl, hS4, rfl⟩
  have hS5 := hS4 W hS
  have hS6 := hS5
  clear hS hS4
  obtain ⟨A, cap, rfl, hl0, hlc, _⟩ := hS5
  have hlen : (ops.take 200).length ≤ 200 := by rw [List.length_take]; omega
  generalize ops.take 200 = sc at hS6 hl0 hlc hlen ⊢
  go_wp2_with fail
  refine (clkNew H0).mono ?_
  rintro e w1 ⟨c, rfl, H1⟩
  unfold pp
  clear H0
  have H2 := RClock.new (H1.alloc (.cells #[.int .i64 0, .slice none 0 0] 45))
  have H3 := BookP.new (H2.alloc (.cells #[.slice none 0 0, .slice none 0 0, .int .i64 0, .bool false] 48))
  go_wp2_with fail
  have hsz : (w1.alloc (.cells #[.int .i64 0, .slice none 0 0] 45)).heap.size = w1.heap.size + 1 := by unfold World.alloc; exact Array.size_push ..
  rw [hsz] at H3
  clear hsz H1 H2
  go_loopw [6] (fun i wr => ∃ (k n : Nat) (m : Clk) (q : RClk), k ≤ sc.length ∧ i = .int .i64 k ∧ RelC m q ∧ m.Ok ∧ n ≤ 2 * k ∧ Hd W [Clock c m, RClock w1.heap.size q, BookP (w1.heap.size + 1) n, whole W] wr) (fun i _ => sc.length - (intOf i).toNat)
  case atStart => exact ⟨0, 0, _, _, Nat.zero_le _, rfl, RelC.new, Clk.Ok.new, Nat.le_refl _, H3.b3.b3.b2⟩
  case round =>
    obtain ⟨k, n, m, q, hk, rfl, hr, hm, hn, HI⟩ := hrel
    obtain ⟨wo, rfl⟩ : ∃ wo : World, wo = wr := ⟨_, rfl⟩
    clear H3
    generalize w1.heap.size = d at *
    by_cases hlt : k < sc.length
    · obtain ⟨x, hx⟩ : ∃ x, sc[k]? = some x := ⟨sc[k], List.getElem?_eq_getElem hlt⟩
      obtain ⟨ab, o, rfl, r0, r1, r2, r3, r4, r5, r6, r7, r8, r9⟩ := (hS6.keep HI.b4.below).at_ hx
      have HB := (HI.alloc (.cells x.cells.toArray 50)).d4
      simp only [OpR.cells, TaskR.cells] at HB
      by_cases h0 : x.kd = 0
      · rw [h0] at r0 HB
        have hq := hr.ok hm
        go_wp2_with fail
        refine (clkAdd' HB hm _ _ _ _ _ _ _ _ _ _ rfl rfl rfl).mono ?_
        rintro e w2 ⟨rfl, H2⟩
        have t4 := H2.b4.rd
        go_wp2_with fail
        refine (refAdd H2.b2 hq x.t).mono ?_
        rintro e w3 ⟨rfl, H3⟩
        rw [hr.addN_eq, hr.addE_eq]
        go_wp2_with fail
        have HT : Hd W [Clock c (m.add x.t.p x.t.f x.t.g), RClock d (q.add x.t), BookP (d + 1) n, pt wo.heap.size (.cells #[.int .i64 0, .int .i64 x.n, .string x.t.nm, .int .i64 x.t.lv, .int .i64 x.t.fr, .slice x.t.na x.t.nl x.t.nc, .string x.t.cd, .int .i64 x.t.p, .int .i64 x.t.f, .int .i64 x.t.g] 50), whole W] _ := H3.b2
        go_loopw [18] (fun id ww => ∃ j : Nat, id = .int .i64 ((j : Int) - 1) ∧ j ≤ 13 ∧ Hd W [Clock c (m.add x.t.p x.t.f x.t.g), RClock d (q.add x.t), BookP (d + 1) n, pt wo.heap.size (.cells #[.int .i64 0, .int .i64 x.n, .string x.t.nm, .int .i64 x.t.lv, .int .i64 x.t.fr, .slice x.t.na x.t.nl x.t.nc, .string x.t.cd, .int .i64 x.t.p, .int .i64 x.t.f, .int .i64 x.t.g] 50), whole W] ww) (fun id _ => (12 - intOf id).toNat)
        case atStart => exact ⟨0, rfl, by omega, HT⟩
        case round =>
          obtain ⟨j, rfl, hj, HS⟩ := hrel
          clear HT
          obtain ⟨v, HO⟩ := RClock.opened HS.b2
          obtain ⟨va, vc, rfl, _, _, _, _⟩ := HO.b2.slc_form
          have c1 := HO.rd 1
          have t1 := HS.b4.rd 1
          clear HO
          by_cases hj3 : (j : Int) - 1 ≤ ((q.add x.t)).l.length
          · by_cases hj4 : (j : Int) - 1 < 12
            · go_wp2_with fail
              refine (showsSpec HS (hr.add hm x.t) (hm.add _ _ _) _).mono ?_
              rintro e w7 ⟨rfl, H7⟩
              go_wp2_with fail
              go_roundw
              case rel => exact ⟨j + 1, by go_num, by omega, H7⟩
              case measure => simp [intOf]; omega
            · go_wp2_with fail
              refine (showsSpec HS (hr.add hm x.t) (hm.add _ _ _) _).mono ?_
              rintro e w7 ⟨rfl, H7⟩
              go_wp2_with fail
              go_roundw
              case rel => exact ⟨k + 1, _, _, _, by omega, by go_num, hr.add hm x.t, hm.add _ _ _, by omega, H7.b4.tail⟩
              case measure => simp [intOf]; omega

          · go_wp2_with fail
            refine (showsSpec HS (hr.add hm x.t) (hm.add _ _ _) _).mono ?_
            rintro e w7 ⟨rfl, H7⟩
            go_wp2_with fail
            go_roundw
            case rel => exact ⟨k + 1, _, _, _, by omega, by go_num, hr.add hm x.t, hm.add _ _ _, by omega, H7.b4.tail⟩
            case measure => simp [intOf]; omega
      · have b0 : (x.kd == 0) = false := by simpa using h0
        by_cases h1 : x.kd = 1
        · skip
          rw [h1] at r0 HB
          have h1' := h1
          clear h0 h1 b0
          go_wp2_with fail
          have hN0 : 0 ≤ (1 : Int) := by decide
          have hN1 : (1 : Int) ≤ 50 := by decide
          clear h1'
          go_loopw [13] (fun kv ww => ∃ (j n' : Nat) (m' : Clk) (q' : RClk), kv = .int .i64 j ∧ (j : Int) ≤ (1 : Int) ∧ RelC m' q' ∧ m'.Ok ∧ n' ≤ n + min j 2 ∧ Hd W [Clock c m', RClock d q', BookP (d + 1) n', pt wo.heap.size (.cells #[.int .i64 1, .int .i64 x.n, .string x.t.nm, .int .i64 x.t.lv, .int .i64 x.t.fr, .slice x.t.na x.t.nl x.t.nc, .string x.t.cd, .int .i64 x.t.p, .int .i64 x.t.f, .int .i64 x.t.g] 50), whole W] ww) (fun kv _ => ((1 : Int)).toNat - (intOf kv).toNat)
          case atStart => exact ⟨0, n, m, q, rfl, by omega, hr, hm, by omega, HB⟩
          case round =>
            obtain ⟨j, n', m', q', rfl, hj, hr', hm', hn', HJ⟩ := hrel
            clear HB HI hr hm
            by_cases hj3 : (j : Int) < (1 : Int)
            · have hq' := hr'.ok hm'
              go_wp2_with fail
              refine (clkTick HJ hm').mono ?_
              rintro e w2 ⟨ta, rfl, H2⟩
              go_wp2_with fail
              refine (refTick H2.b3 hq').mono ?_
              rintro e w3 ⟨tx, rfl, H3⟩
              rw [hr'.tickE_eq]
              have hlen64 := tickL_le hm'
              rw [hr'.tickL_eq] at H3
              obtain ⟨tb, tc, rfl, _, _, _, _⟩ := H3.slc_form
              have hsame := sameInt (Rds.of_slc (xs := ints m'.tickL) (H3.b3) (by omega)) (Rds.of_slc (xs := ints m'.tickL) H3 (by omega))
              have hT := Lib.hid (And.intro (hr'.tick hm') hm'.tick)
              generalize m'.tickL = tl at *
              generalize m'.tickE = te at *
              generalize m'.tick = mt at *
              generalize q'.tick = qt at *
              rw [decide_eq_true rfl] at hsame
              go_wp2_with fail
              refine hsame.mono ?_
              rintro e w4 ⟨rfl, nz, rfl⟩
              have H4 := H3.drewN nz
              clear hsame H2 H3
              by_cases hj2 : (j : Int) < 2
              · go_wp2_with fail
                refine (bookKeep (H4.b3.b5) (by omega) (by omega)).mono ?_
                rintro e w5 ⟨rfl, H5⟩
                go_wp2_with fail
                go_roundw
                case rel => exact ⟨j + 1, n' + 1, mt, qt, by go_num, by omega, hT.out.1, hT.out.2, by omega, H5.re⟩
                case measure => simp [intOf]; omega
              · exact absurd hj3 (by omega)
            · go_wp2_with fail
              have HT : Hd W [Clock c m', RClock d q', BookP (d + 1) n', pt wo.heap.size (.cells #[.int .i64 1, .int .i64 x.n, .string x.t.nm, .int .i64 x.t.lv, .int .i64 x.t.fr, .slice x.t.na x.t.nl x.t.nc, .string x.t.cd, .int .i64 x.t.p, .int .i64 x.t.f, .int .i64 x.t.g] 50), whole W] _ := HJ
              go_loopw [18] (fun id ww => ∃ j : Nat, id = .int .i64 ((j : Int) - 1) ∧ j ≤ 13 ∧ Hd W [Clock c m', RClock d q', BookP (d + 1) n', pt wo.heap.size (.cells #[.int .i64 1, .int .i64 x.n, .string x.t.nm, .int .i64 x.t.lv, .int .i64 x.t.fr, .slice x.t.na x.t.nl x.t.nc, .string x.t.cd, .int .i64 x.t.p, .int .i64 x.t.f, .int .i64 x.t.g] 50), whole W] ww) (fun id _ => (12 - intOf id).toNat)
              case atStart => exact ⟨0, rfl, by omega, HT⟩
              case round =>
                obtain ⟨j, rfl, hj, HS⟩ := hrel
                clear HT
                obtain ⟨v, HO⟩ := RClock.opened HS.b2
                obtain ⟨va, vc, rfl, _, _, _, _⟩ := HO.b2.slc_form
                have c1 := HO.rd 1
                have t1 := HS.b4.rd 1
                clear HO
                by_cases hj3 : (j : Int) - 1 ≤ (q').l.length
                · by_cases hj4 : (j : Int) - 1 < 12
                  · go_wp2_with fail
                    refine (showsSpec HS (hr') (hm') _).mono ?_
                    rintro e w7 ⟨rfl, H7⟩
                    go_wp2_with fail
                    go_roundw
                    case rel => exact ⟨j + 1, by go_num, by omega, H7⟩
                    case measure => simp [intOf]; omega
                  · go_wp2_with fail
                    refine (showsSpec HS (hr') (hm') _).mono ?_
                    rintro e w7 ⟨rfl, H7⟩
                    go_wp2_with fail
                    go_roundw
                    case rel => exact ⟨k + 1, _, _, _, by omega, by go_num, hr', hm', by omega, H7.b4.tail⟩
                    case measure => simp [intOf]; omega

                · go_wp2_with fail
                  refine (showsSpec HS (hr') (hm') _).mono ?_
                  rintro e w7 ⟨rfl, H7⟩
                  go_wp2_with fail
                  go_roundw
                  case rel => exact ⟨k + 1, _, _, _, by omega, by go_num, hr', hm', by omega, H7.b4.tail⟩
                  case measure => simp [intOf]; omega
        · have b1 : (x.kd == 1) = false := by simpa using h1
          by_cases h4 : x.kd = 4
          · skip
            rw [h4] at r0 HB
            have h1' := h4
            clear h0 h1 h4 b0 b1
            have t0 := HB.b4.rd 0
            have t1 := HB.b4.rd 1
            go_wp2_with fail
            refine (within_spec x.n 1 50 (by decide) (by decide) (by decide)).mono ?_
            rintro e w2 ⟨rfl, rfl⟩
            obtain ⟨wl0, wl1⟩ := within_le (n := x.n) (lo := 1) (hi := 50) (by decide)
            generalize within x.n 1 50 = N at *
            clear t0 t1
            go_wp2_with fail
            have hN0 : 0 ≤ N := by omega
            have hN1 : N ≤ 50 := by omega
            clear h1'
            go_loopw [13] (fun kv ww => ∃ (j n' : Nat) (m' : Clk) (q' : RClk), kv = .int .i64 j ∧ (j : Int) ≤ N ∧ RelC m' q' ∧ m'.Ok ∧ n' ≤ n + min j 2 ∧ Hd W [Clock c m', RClock d q', BookP (d + 1) n', pt wo.heap.size (.cells #[.int .i64 4, .int .i64 x.n, .string x.t.nm, .int .i64 x.t.lv, .int .i64 x.t.fr, .slice x.t.na x.t.nl x.t.nc, .string x.t.cd, .int .i64 x.t.p, .int .i64 x.t.f, .int .i64 x.t.g] 50), whole W] ww) (fun kv _ => (N).toNat - (intOf kv).toNat)
            case atStart => exact ⟨0, n, m, q, rfl, by omega, hr, hm, by omega, HB⟩
            case round =>
              obtain ⟨j, n', m', q', rfl, hj, hr', hm', hn', HJ⟩ := hrel
              clear HB HI hr hm
              by_cases hj3 : (j : Int) < N
              · have hq' := hr'.ok hm'
                go_wp2_with fail
                refine (clkTick HJ hm').mono ?_
                rintro e w2 ⟨ta, rfl, H2⟩
                go_wp2_with fail
                refine (refTick H2.b3 hq').mono ?_
                rintro e w3 ⟨tx, rfl, H3⟩
                rw [hr'.tickE_eq]
                have hlen64 := tickL_le hm'
                rw [hr'.tickL_eq] at H3
                obtain ⟨tb, tc, rfl, _, _, _, _⟩ := H3.slc_form
                have hsame := sameInt (Rds.of_slc (xs := ints m'.tickL) (H3.b3) (by omega)) (Rds.of_slc (xs := ints m'.tickL) H3 (by omega))
                have hT := Lib.hid (And.intro (hr'.tick hm') hm'.tick)
                generalize m'.tickL = tl at *
                generalize m'.tickE = te at *
                generalize m'.tick = mt at *
                generalize q'.tick = qt at *
                rw [decide_eq_true rfl] at hsame
                go_wp2_with fail
                refine hsame.mono ?_
                rintro e w4 ⟨rfl, nz, rfl⟩
                have H4 := H3.drewN nz
                clear hsame H2 H3
                by_cases hj2 : (j : Int) < 2
                · go_wp2_with fail
                  refine (bookKeep (H4.b3.b5) (by omega) (by omega)).mono ?_
                  rintro e w5 ⟨rfl, H5⟩
                  go_wp2_with fail
                  go_roundw
                  case rel => exact ⟨j + 1, n' + 1, mt, qt, by go_num, by omega, hT.out.1, hT.out.2, by omega, H5.re⟩
                  case measure => simp [intOf]; omega
                · go_wp2_with fail
                  go_roundw
                  case rel => exact ⟨j + 1, n', mt, qt, by go_num, by omega, hT.out.1, hT.out.2, by omega, H4.re⟩
                  case measure => simp [intOf]; omega
              · go_wp2_with fail
                have HT : Hd W [Clock c m', RClock d q', BookP (d + 1) n', pt wo.heap.size (.cells #[.int .i64 4, .int .i64 x.n, .string x.t.nm, .int .i64 x.t.lv, .int .i64 x.t.fr, .slice x.t.na x.t.nl x.t.nc, .string x.t.cd, .int .i64 x.t.p, .int .i64 x.t.f, .int .i64 x.t.g] 50), whole W] _ := HJ
                go_loopw [18] (fun id ww => ∃ j : Nat, id = .int .i64 ((j : Int) - 1) ∧ j ≤ 13 ∧ Hd W [Clock c m', RClock d q', BookP (d + 1) n', pt wo.heap.size (.cells #[.int .i64 4, .int .i64 x.n, .string x.t.nm, .int .i64 x.t.lv, .int .i64 x.t.fr, .slice x.t.na x.t.nl x.t.nc, .string x.t.cd, .int .i64 x.t.p, .int .i64 x.t.f, .int .i64 x.t.g] 50), whole W] ww) (fun id _ => (12 - intOf id).toNat)
                case atStart => exact ⟨0, rfl, by omega, HT⟩
                case round =>
                  obtain ⟨j, rfl, hj, HS⟩ := hrel
                  clear HT
                  obtain ⟨v, HO⟩ := RClock.opened HS.b2
                  obtain ⟨va, vc, rfl, _, _, _, _⟩ := HO.b2.slc_form
                  have c1 := HO.rd 1
                  have t1 := HS.b4.rd 1
                  clear HO
                  by_cases hj3 : (j : Int) - 1 ≤ (q').l.length
                  · by_cases hj4 : (j : Int) - 1 < 12
                    · go_wp2_with fail
                      refine (showsSpec HS (hr') (hm') _).mono ?_
                      rintro e w7 ⟨rfl, H7⟩
                      go_wp2_with fail
                      go_roundw
                      case rel => exact ⟨j + 1, by go_num, by omega, H7⟩
                      case measure => simp [intOf]; omega
                    · go_wp2_with fail
                      refine (showsSpec HS (hr') (hm') _).mono ?_
                      rintro e w7 ⟨rfl, H7⟩
                      go_wp2_with fail
                      go_roundw
                      case rel => exact ⟨k + 1, _, _, _, by omega, by go_num, hr', hm', by omega, H7.b4.tail⟩
                      case measure => simp [intOf]; omega

                  · go_wp2_with fail
                    refine (showsSpec HS (hr') (hm') _).mono ?_
                    rintro e w7 ⟨rfl, H7⟩
                    go_wp2_with fail
                    go_roundw
                    case rel => exact ⟨k + 1, _, _, _, by omega, by go_num, hr', hm', by omega, H7.b4.tail⟩
                    case measure => simp [intOf]; omega
          · have b4 : (x.kd == 4) = false := by simpa using h4
            by_cases h2 : x.kd = 2
            · rw [h2] at r0 HB
              have hq := hr.ok hm
              have HD := HB.drew
              have t1 := HD.b4.rd 1
              clear h0 h1 h4 b0 b1 b4
              go_wp2_with fail
              go_region_held3 (fun w' => w'.cell? ⟨wo.heap.size, 1, none⟩ = some (.int .i64 x.n)) (go_keep) (first | (go_at_call 13; refine (clkReady HD hm _).mono ?_; rintro e w2 ⟨rfl, H2⟩; have t2 := H2.b4.rd 1) | (go_at_call 22; refine (refReady H2.b2 hq _).mono ?_; rintro e w3 ⟨rfl, H3⟩; have t3 := H3.b4.rd 1))
              rw [hr.ready_eq, bne_self_eq_false]
              go_wp2_with fail
              have HT : Hd W [Clock c m, RClock d q, BookP (d + 1) n, pt wo.heap.size (.cells #[.int .i64 2, .int .i64 x.n, .string x.t.nm, .int .i64 x.t.lv, .int .i64 x.t.fr, .slice x.t.na x.t.nl x.t.nc, .string x.t.cd, .int .i64 x.t.p, .int .i64 x.t.f, .int .i64 x.t.g] 50), whole W] _ := H3.b2
              go_loopw [18] (fun id ww => ∃ j : Nat, id = .int .i64 ((j : Int) - 1) ∧ j ≤ 13 ∧ Hd W [Clock c m, RClock d q, BookP (d + 1) n, pt wo.heap.size (.cells #[.int .i64 2, .int .i64 x.n, .string x.t.nm, .int .i64 x.t.lv, .int .i64 x.t.fr, .slice x.t.na x.t.nl x.t.nc, .string x.t.cd, .int .i64 x.t.p, .int .i64 x.t.f, .int .i64 x.t.g] 50), whole W] ww) (fun id _ => (12 - intOf id).toNat)
              case atStart => exact ⟨0, rfl, by omega, HT⟩
              case round =>
                obtain ⟨j, rfl, hj, HS⟩ := hrel
                clear HT
                obtain ⟨v, HO⟩ := RClock.opened HS.b2
                obtain ⟨va, vc, rfl, _, _, _, _⟩ := HO.b2.slc_form
                have c1 := HO.rd 1
                have t1 := HS.b4.rd 1
                clear HO
                by_cases hj3 : (j : Int) - 1 ≤ (q).l.length
                · by_cases hj4 : (j : Int) - 1 < 12
                  · go_wp2_with fail
                    refine (showsSpec HS (hr) (hm) _).mono ?_
                    rintro e w7 ⟨rfl, H7⟩
                    go_wp2_with fail
                    go_roundw
                    case rel => exact ⟨j + 1, by go_num, by omega, H7⟩
                    case measure => simp [intOf]; omega
                  · go_wp2_with fail
                    refine (showsSpec HS (hr) (hm) _).mono ?_
                    rintro e w7 ⟨rfl, H7⟩
                    go_wp2_with fail
                    go_roundw
                    case rel => exact ⟨k + 1, _, _, _, by omega, by go_num, hr, hm, by omega, H7.b4.tail⟩
                    case measure => simp [intOf]; omega

                · go_wp2_with fail
                  refine (showsSpec HS (hr) (hm) _).mono ?_
                  rintro e w7 ⟨rfl, H7⟩
                  go_wp2_with fail
                  go_roundw
                  case rel => exact ⟨k + 1, _, _, _, by omega, by go_num, hr, hm, by omega, H7.b4.tail⟩
                  case measure => simp [intOf]; omega
            · have b2 : (x.kd == 2) = false := by simpa using h2
              by_cases h3 : x.kd = 3
              · rw [h3] at r0 HB
                have hq := hr.ok hm
                have HD := HB.drew
                have t1 := HD.b4.rd 1
                clear h0 h1 h4 h2 b0 b1 b4 b2
                go_wp2_with fail
                go_region_held3 (fun w' => w'.cell? ⟨wo.heap.size, 1, none⟩ = some (.int .i64 x.n)) (go_keep) (first | (go_at_call 14; refine (clkNote HD hm _).mono ?_; rintro e w2 ⟨rfl, H2⟩; have t2 := H2.b4.rd 1) | (go_at_call 23; refine (refNote H2.b2 hq _).mono ?_; rintro e w3 ⟨rfl, H3⟩; have t3 := H3.b4.rd 1))
                rw [hr.noteE_eq, bne_self_eq_false]
                go_wp2_with fail
                have HT : Hd W [Clock c (m.note x.n), RClock d (q.note x.n), BookP (d + 1) n, pt wo.heap.size (.cells #[.int .i64 3, .int .i64 x.n, .string x.t.nm, .int .i64 x.t.lv, .int .i64 x.t.fr, .slice x.t.na x.t.nl x.t.nc, .string x.t.cd, .int .i64 x.t.p, .int .i64 x.t.f, .int .i64 x.t.g] 50), whole W] _ := H3.b2
                go_loopw [18] (fun id ww => ∃ j : Nat, id = .int .i64 ((j : Int) - 1) ∧ j ≤ 13 ∧ Hd W [Clock c (m.note x.n), RClock d (q.note x.n), BookP (d + 1) n, pt wo.heap.size (.cells #[.int .i64 3, .int .i64 x.n, .string x.t.nm, .int .i64 x.t.lv, .int .i64 x.t.fr, .slice x.t.na x.t.nl x.t.nc, .string x.t.cd, .int .i64 x.t.p, .int .i64 x.t.f, .int .i64 x.t.g] 50), whole W] ww) (fun id _ => (12 - intOf id).toNat)
                case atStart => exact ⟨0, rfl, by omega, HT⟩
                case round =>
                  obtain ⟨j, rfl, hj, HS⟩ := hrel
                  clear HT
                  obtain ⟨v, HO⟩ := RClock.opened HS.b2
                  obtain ⟨va, vc, rfl, _, _, _, _⟩ := HO.b2.slc_form
                  have c1 := HO.rd 1
                  have t1 := HS.b4.rd 1
                  clear HO
                  by_cases hj3 : (j : Int) - 1 ≤ ((q.note x.n)).l.length
                  · by_cases hj4 : (j : Int) - 1 < 12
                    · go_wp2_with fail
                      refine (showsSpec HS (hr.note hm x.n) (hm.note _) _).mono ?_
                      rintro e w7 ⟨rfl, H7⟩
                      go_wp2_with fail
                      go_roundw
                      case rel => exact ⟨j + 1, by go_num, by omega, H7⟩
                      case measure => simp [intOf]; omega
                    · go_wp2_with fail
                      refine (showsSpec HS (hr.note hm x.n) (hm.note _) _).mono ?_
                      rintro e w7 ⟨rfl, H7⟩
                      go_wp2_with fail
                      go_roundw
                      case rel => exact ⟨k + 1, _, _, _, by omega, by go_num, hr.note hm x.n, hm.note _, by omega, H7.b4.tail⟩
                      case measure => simp [intOf]; omega

                  · go_wp2_with fail
                    refine (showsSpec HS (hr.note hm x.n) (hm.note _) _).mono ?_
                    rintro e w7 ⟨rfl, H7⟩
                    go_wp2_with fail
                    go_roundw
                    case rel => exact ⟨k + 1, _, _, _, by omega, by go_num, hr.note hm x.n, hm.note _, by omega, H7.b4.tail⟩
                    case measure => simp [intOf]; omega
              · have b3 : (x.kd == 3) = false := by simpa using h3
                go_wp2_with fail
                have HT : Hd W [Clock c m, RClock d q, BookP (d + 1) n, pt wo.heap.size (.cells #[.int .i64 x.kd, .int .i64 x.n, .string x.t.nm, .int .i64 x.t.lv, .int .i64 x.t.fr, .slice x.t.na x.t.nl x.t.nc, .string x.t.cd, .int .i64 x.t.p, .int .i64 x.t.f, .int .i64 x.t.g] 50), whole W] _ := HB
                go_loopw [18] (fun id ww => ∃ j : Nat, id = .int .i64 ((j : Int) - 1) ∧ j ≤ 13 ∧ Hd W [Clock c m, RClock d q, BookP (d + 1) n, pt wo.heap.size (.cells #[.int .i64 x.kd, .int .i64 x.n, .string x.t.nm, .int .i64 x.t.lv, .int .i64 x.t.fr, .slice x.t.na x.t.nl x.t.nc, .string x.t.cd, .int .i64 x.t.p, .int .i64 x.t.f, .int .i64 x.t.g] 50), whole W] ww) (fun id _ => (12 - intOf id).toNat)
                case atStart => exact ⟨0, rfl, by omega, HT⟩
                case round =>
                  obtain ⟨j, rfl, hj, HS⟩ := hrel
                  clear HT
                  obtain ⟨v, HO⟩ := RClock.opened HS.b2
                  obtain ⟨va, vc, rfl, _, _, _, _⟩ := HO.b2.slc_form
                  have c1 := HO.rd 1
                  have t1 := HS.b4.rd 1
                  clear HO
                  by_cases hj3 : (j : Int) - 1 ≤ (q).l.length
                  · by_cases hj4 : (j : Int) - 1 < 12
                    · go_wp2_with fail
                      refine (showsSpec HS (hr) (hm) _).mono ?_
                      rintro e w7 ⟨rfl, H7⟩
                      go_wp2_with fail
                      go_roundw
                      case rel => exact ⟨j + 1, by go_num, by omega, H7⟩
                      case measure => simp [intOf]; omega
                    · go_wp2_with fail
                      refine (showsSpec HS (hr) (hm) _).mono ?_
                      rintro e w7 ⟨rfl, H7⟩
                      go_wp2_with fail
                      go_roundw
                      case rel => exact ⟨k + 1, _, _, _, by omega, by go_num, hr, hm, by omega, H7.b4.tail⟩
                      case measure => simp [intOf]; omega

                  · go_wp2_with fail
                    refine (showsSpec HS (hr) (hm) _).mono ?_
                    rintro e w7 ⟨rfl, H7⟩
                    go_wp2_with fail
                    go_roundw
                    case rel => exact ⟨k + 1, _, _, _, by omega, by go_num, hr, hm, by omega, H7.b4.tail⟩
                    case measure => simp [intOf]; omega
    · obtain rfl : k = sc.length := by omega
      go_wp2_with fail
      refine (bookApart HI.b3 (by omega)).mono ?_
      rintro e w2 ⟨rfl, H2⟩
      go_wp2_with fail
      refine (runs_spec H2).mono ?_
      rintro e w3 ⟨rfl, H3⟩
      go_wp2_with fail
      go_ret
      exact ⟨rfl, H3.tail.tail⟩
end Go.Proofs.Ytdppdmmcnlmdgaa
