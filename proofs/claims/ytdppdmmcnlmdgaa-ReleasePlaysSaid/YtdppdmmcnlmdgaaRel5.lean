/-
  Package release over the separation logic: Tick. Every clock.
-/
import Derived.Test.YtdppdmmcnlmdgaaRel4
import Derived.RegionTactic
namespace Go.Proofs.Ytdppdmmcnlmdgaa
open Go.RowKit Spl

section
variable {w0 w : World} {R : List Pr} {c : Nat} {m : Clk}

theorem patList {s o T : Nat} {C : Array Value} {v : Value} {n : Nat} {xs : List Value} (H : Hd w0 (cel s T C :: Slc 70 1 v n xs :: R) w) (hC : C[o]? = some v) (hn : n ≤ 1000000) (h1 : ∀ u ∈ xs, u.oneCell' = true) :
    Calls Try.prog 30 #[.pointer (some ⟨s, o, none⟩)] w fun e w' => ∃ g, e = .returned (.slice (some ⟨g, 0, none⟩) n n) ∧
      Hd w0 (SlcC 70 1 g n n xs :: cel s T C :: Slc 70 1 v n xs :: R) w' := by
  have c0 : w.cell? ⟨s, o, none⟩ = some v := (H.rd o).trans hC
  have hcall := patCopied H.b2 hn h1
  obtain ⟨a, cap, rfl, _, _, _, _⟩ := H.b2.slc_form
  go_enter Try.func30, Try.ntmps30
  go_wp2_with (go_at_call 37; refine hcall.mono ?_; rintro e w' ⟨g, rfl, H2⟩)
  go_ret
  exact ⟨g, rfl, H2.b3.b2⟩

theorem pp_one (bs : List Nat) : ∀ u ∈ bs.map pp, u.oneCell' = true := by
  intro u hu
  obtain ⟨b, _, rfl⟩ := List.mem_map.1 hu
  rfl

def TickI (w0 : World) (R : List Pr) (c g : Nat) (v : Value) (m : Clk) (bs : List Nat) (k : Nat) (x : Value) (wr : World) : Prop :=
  Hd w0 (SlcC 70 1 g m.l.length m.l.length (bs.map pp) :: cel c 69 #[.int .i64 (m.now + 1), v] :: Slc 70 1 v m.l.length (bs.map pp) ::
    Slc 3 1 x (idsTo (m.now + 1) m.l k).length ((idsTo (m.now + 1) m.l k).map (Value.int .i64)) :: all (List.zipWith patB bs (tickTo (m.now + 1) m.l k)) :: R) wr

set_option maxHeartbeats 1000000 in
theorem clkTick (H : Hd w0 (Clock c m :: R) w) (hm : m.Ok) :
    Calls Try.prog 10 #[pp c] w fun e w' => ∃ a, e = .returned (.tuple #[.slice a m.tickL.length m.tickL.length, .int .i64 m.tickE]) ∧
      Hd w0 (Slc 3 1 (.slice a m.tickL.length m.tickL.length) m.tickL.length (m.tickL.map (Value.int .i64)) :: Clock c m.tick :: R) w' := by
  obtain ⟨v, bs, hl, H1⟩ := Clock.opened H
  have hlen := hm.len
  have n0 := hm.n0
  have c0 := H1.rd 0
  have f0 := H1.fr 0
  unfold pp
  by_cases he : 1099511627776 ≤ m.now
  · have h1 : m.tickL = [] := by simp [Clk.tickL, Clk.atEnd, he]
    have h2 : m.tickE = 1 := by simp [Clk.tickE, Clk.atEnd, he]
    have h3 : m.tick = m := by simp [Clk.tick, Clk.atEnd, he]
    rw [h1, h2, h3]
    clear h1 h2 h3 H1
    go_enter Try.func10, Try.ntmps10
    go_wp2
    go_ret2
    exact ⟨none, rfl, H.slc_nil _ _⟩
  · have h1 : m.tickL = dueIds (m.now + 1) 0 m.l := by simp [Clk.tickL, Clk.atEnd, he]
    have h2 : m.tickE = 0 := by simp [Clk.tickE, Clk.atEnd, he]
    have h3 : m.tick = ⟨m.now + 1, m.l.map (Pat.tick (m.now + 1))⟩ := by simp [Clk.tick, Clk.atEnd, he]
    rw [h1, h2, h3]
    clear h1 h2 h3
    have HS : Hd w0 (cel c 69 #[.int .i64 (m.now + 1), v] :: Slc 70 1 v m.l.length (bs.map pp) :: _) _ := H1.set 0 (.int .i64 (m.now + 1))
    have hcall := patList (o := 1) HS rfl (by omega) (pp_one bs)
    clear H H1
    go_enter Try.func10, Try.ntmps10
    go_wp2_with (go_at_call 30; refine hcall.mono ?_; rintro e w1 ⟨g, rfl, H2⟩; clear hcall HS)
    go_loopw [4, 24] (fun x i wr => ∃ k : Nat, k ≤ m.l.length ∧ i = .int .i64 k ∧ TickI w0 R c g v m bs k x wr) (fun _ i _ => m.l.length - (intOf i).toNat)
    case atStart =>
      refine ⟨0, Nat.zero_le _, rfl, ?_⟩
      unfold TickI
      rw [idsTo_zero, tickTo_zero]
      exact (H2.slc_nil 3 1).d4
    case round =>
      obtain ⟨k, hk, rfl, HI⟩ := hrel
      by_cases hlt : k < m.l.length
      · obtain ⟨p, hp⟩ : ∃ p, m.l[k]? = some p := ⟨m.l[k], List.getElem?_eq_getElem hlt⟩
        obtain ⟨b, hb⟩ : ∃ b, bs[k]? = some b := ⟨bs[k]'(by omega), List.getElem?_eq_getElem _⟩
        have hp2 := tickTo_at (now := m.now + 1) hp
        have hok := hm.pat p (List.mem_of_getElem? hp)
        have q0 := hok.p0; have q1 := hok.p1; have q2 := hok.d0; have q3 := hok.d1
        have HI' := HI
        unfold TickI at HI
        have cg := HI.slcC_rd (j := k) (u := pp b) (by simp [hb])
        have cc := HI.b2.rd 0
        have HP := HI.b5.row_nth hb hp2
        have cp : ∀ j, wr.cell? ⟨b, j, none⟩ = p.cells[j]? := HP.rd
        have fp : ∀ j, wr.frozen? ⟨b, j, none⟩ = false := HP.fr
        simp only [Pat.cells] at cp
        unfold pp at cg
        clear hok
        by_cases h1 : 0 < p.period
        · by_cases h2 : p.due = m.now + 1
          · have hd : (p.due == m.now + 1) = true := by simpa using h2
            have hdue : p.isDue (m.now + 1) = true := by simp [Pat.isDue, h1, h2]
            have hs : IntKind.i64.wrap (p.due + p.period) = p.due + p.period := IntWalk.i64_in _ (by omega)
            have hidl := idsTo_length (m.now + 1) m.l k
            have HQ : Hd w0 (patB b { p with due := p.due + p.period } :: _) _ := HP.set 2 (.int .i64 (p.due + p.period))
            have HQ2 := (HQ.row_back (b' := { p with due := p.due + p.period }) hb hp2).b5
            have et : p.tick (m.now + 1) = { p with due := p.due + p.period } := by simp [Pat.tick, hdue]
            rw [← et, ← tickTo_succ hp] at HQ2
            obtain ⟨i0, hi, hz0, hz1, hz2⟩ := info_parts infoInt
            clear HI HQ HP et h2 HI'
            go_wp2_with (first | go_quiet (fail) | (refine wp_region_still_tail 11 (by kernel_rfl) (by kernel_rfl) ?_; simp only [List.take_succ_cons, List.take_zero, List.drop_succ_cons, List.drop_zero, World.drew_eq]; (repeat still_step); refine wpStill_nil ?_) | (at_builtin; (refine wpList_append_slc rfl _ _ 30 rfl 3 i0 _ 1 8 Try.underlying30 hi hz0 hz1 hz2 rfl _ _ _ rfl (((HQ2.alloc _).drewN _).b2) ⟨_, 0, none⟩ 1 1 [.int .i64 k] rfl rfl (one_new (by simp)) (by simp [Value.oneCell']) (by unfold maxLen; omega) (by omega) ?_); intro v' w2 H3))
            go_roundw
            case rel =>
              refine ⟨k + 1, by omega, by go_num, ?_⟩
              unfold TickI
              rw [idsTo_due hp hdue, List.map_append, List.length_append]
              exact H3.b2.tail.d5.d5
            case measure => simp [intOf]; omega
          · have hd : (p.due == m.now + 1) = false := by simpa using h2
            have hnd : p.isDue (m.now + 1) = false := by simp [Pat.isDue, h2]
            go_wp2_with (go_quiet (fail))
            go_roundw
            case rel =>
              refine ⟨k + 1, by omega, by go_num, ?_⟩
              unfold TickI at HI' ⊢
              rw [idsTo_not hp hnd, tickTo_same hp hnd]
              exact HI'.drewN _
            case measure => simp [intOf]; omega
        · have hnd : p.isDue (m.now + 1) = false := by simp [Pat.isDue, h1]
          go_wp2_with (go_quiet (fail))
          go_roundw
          case rel =>
            refine ⟨k + 1, by omega, by go_num, ?_⟩
            unfold TickI at HI' ⊢
            rw [idsTo_not hp hnd, tickTo_same hp hnd]
            exact HI'.drewN _
          case measure => simp [intOf]; omega
      · obtain rfl : k = m.l.length := by omega
        unfold TickI at HI
        rw [idsTo_all, tickTo_all] at HI
        have fin : ∀ {a : Option Addr} {wf : World}, Hd w0 (Slc 3 1 (.slice a (dueIds (m.now + 1) 0 m.l).length (dueIds (m.now + 1) 0 m.l).length) (dueIds (m.now + 1) 0 m.l).length ((dueIds (m.now + 1) 0 m.l).map (Value.int .i64)) ::
            SlcC 70 1 g m.l.length m.l.length (bs.map pp) :: cel c 69 #[.int .i64 (m.now + 1), v] :: Slc 70 1 v m.l.length (bs.map pp) :: all (List.zipWith patB bs (m.l.map (Pat.tick (m.now + 1)))) :: R) wf →
            Hd w0 (Slc 3 1 (.slice a (dueIds (m.now + 1) 0 m.l).length (dueIds (m.now + 1) 0 m.l).length) (dueIds (m.now + 1) 0 m.l).length ((dueIds (m.now + 1) 0 m.l).map (Value.int .i64)) :: Clock c ⟨m.now + 1, m.l.map (Pat.tick (m.now + 1))⟩ :: R) wf := by
          intro a wf h
          have h2 := h.b2.tail.b4.b4.b4
          have e1 : m.l.length = (m.l.map (Pat.tick (m.now + 1))).length := by simp
          rw [e1] at h2
          exact (Clock.shut (m := ⟨m.now + 1, m.l.map (Pat.tick (m.now + 1))⟩) h2 (by simpa using hl)).b2
        rcases HI.b4.slc with ⟨rfl, hz, hx, _⟩ | ⟨gx, cx, rfl, HX⟩
        · have hz' : dueIds (m.now + 1) 0 m.l = [] := List.eq_nil_of_length_eq_zero hz
          rw [hz'] at fin HI
          have F := fin (a := none) HI.b4
          clear fin HI
          go_wp2
          go_ret2
          rw [hz']
          exact ⟨none, rfl, F⟩
        · have hcx := HX.slcC.2.1
          have HY := (HX.slcC_cut (Nat.le_refl _) (Nat.le_refl _) hcx)
          rw [Nat.mul_one, List.take_of_length_le (by simp)] at HY
          have HZ := fin HY.slc_mk
          clear fin HY HX HI
          go_wp2
          go_ret2
          exact ⟨_, rfl, HZ⟩
end
end Go.Proofs.Ytdppdmmcnlmdgaa
