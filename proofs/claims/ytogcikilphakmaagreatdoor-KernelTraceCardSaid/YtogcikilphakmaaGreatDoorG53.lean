/-
  Merged texts of one proof: KtM, Kt1.
-/
import Derived.Test.YtogcikilphakmaaGreatDoorG51
import Derived.Test.YtogcikilphakmaaGreatDoorG52

/-
  A kernel without periodic tasks: its ticks bring no jobs; what its trace keeps. No program in sight.
-/
namespace Go.Proofs.YtogcikilphakmaaGreatDoor
open Go.RowKit Spl

structure QuietK (m : KeM) (t : Nat) : Prop where
  i : KeI m (t + 1)
  p : ∀ x ∈ m.ck.l, x.period = 0
  now : m.ck.now = t
  most : m.ev.most = 4096
  len : m.ev.l.length = min (t + 1) 4096
  gone : m.ev.gone = t + 1 - 4096
  last : 0 < t → m.ev.l.getLast? = some ⟨7, 0, 0, ⟨0, 0, 0, 0⟩, 0, t⟩
theorem quiet_none {now : Int} : ∀ {l : List Pat} (k : Nat) (_ : ∀ x ∈ l, x.period = 0), dueIds now k l = [] ∧ l.map (Pat.tick now) = l
  | [], k, h => ⟨rfl, rfl⟩
  | p :: l, k, h => by
    have h1 := h p (by simp)
    obtain ⟨a, b⟩ := quiet_none (l := l) (now := now) (k + 1) (fun x hx => h x (by simp [hx]))
    have h2 : p.isDue now = false := by unfold Pat.isDue; rw [h1]; rfl
    have h3 : p.tick now = p := by unfold Pat.tick; rw [h2]; rfl
    refine ⟨?_, by rw [List.map_cons, b, h3]⟩
    show (if p.isDue now = true then _ else _) = _
    rw [h2]
    exact a
theorem QuietK.tick1 {m : KeM} {t : Nat} (h : QuietK m t) (ht : t < 1000000) : m.tick1.1 = [] ∧ QuietK m.tick1.2 (t + 1) := by
  have he : m.ck.atEnd = false := by unfold Clk.atEnd; rw [h.now]; simp; omega
  obtain ⟨a, b⟩ := quiet_none (now := m.ck.now + 1) 0 h.p
  have h1 : m.ck.tickL = [] := by unfold Clk.tickL; rw [he]; exact a
  have h2 : m.ck.tick = ⟨m.ck.now + 1, m.ck.l⟩ := by
    unfold Clk.tick
    rw [he]
    show (⟨m.ck.now + 1, m.ck.l.map (Pat.tick (m.ck.now + 1))⟩ : Clk) = _
    rw [b]
  have h3 : m.tick1 = ([], m.tickE) := by unfold KeM.tick1; rw [h1]; rfl
  have h4 := h.now
  have hev : m.tickE.ev = m.ev.put ⟨7, 0, 0, ⟨0, 0, 0, 0⟩, 0, ((t + 1 : Nat) : Int)⟩ := by
    have e1 : m.tickE.ev = m.ev.put { evTick with clock := m.ck.tick.now } := rfl
    rw [e1, h2]
    dsimp only
    rw [h4]
    rfl
  have hck : m.tickE.ck = ⟨m.ck.now + 1, m.ck.l⟩ := h2
  rw [h3]
  refine ⟨rfl, ⟨h.i.tickE (by omega), ?_, ?_, ?_, ?_, ?_, fun _ => ?_⟩⟩
  · rw [hck]; exact h.p
  · rw [hck, h4]; push_cast; rfl
  all_goals
    have e1 := h.most
    have e2 := h.len
    have e3 := h.gone
    rw [hev]
    unfold RingM.put
  · split <;> exact e1
  · split
    · rename_i hf
      rw [e1] at hf
      dsimp only
      rw [List.length_append, List.length_tail, List.length_singleton]
      omega
    · rename_i hf
      rw [e1] at hf
      dsimp only
      rw [List.length_append, List.length_singleton]
      omega
  · split
    · rename_i hf
      rw [e1] at hf
      dsimp only
      omega
    · rename_i hf
      rw [e1] at hf
      have h5 : t + 1 < 4096 := by
        rcases Nat.lt_or_ge (t + 1) 4096 with h5 | h5
        · exact h5
        · exact absurd (e2.trans (Nat.min_eq_right h5)) hf
      show m.ev.gone = _
      rw [e3, Nat.sub_eq_zero_of_le (Nat.le_of_lt h5), Nat.sub_eq_zero_of_le h5]
  · split <;> simp
theorem QuietK.ticks : ∀ {k : Nat} {m : KeM} {t : Nat} (_ : QuietK m t) (_ : t + k < 1000000), (m.ticks k).1 = [] ∧ QuietK (m.ticks k).2 (t + k)
  | 0, m, t, h, _ => ⟨rfl, h⟩
  | k + 1, m, t, h, ht => by
    obtain ⟨a, b⟩ := h.tick1 (by omega)
    obtain ⟨c, d⟩ := QuietK.ticks (k := k) b (by omega)
    rw [KeM.ticks_succ]
    dsimp only
    rw [a, c]
    refine ⟨rfl, ?_⟩
    rw [show t + (k + 1) = t + 1 + k by omega]
    exact d
def aT : TaskM := ⟨⟨#[97]⟩, 1, 0, [], ⟨#[]⟩, 0, 0, 0⟩
def u0 : KeM := KeM.new 4 []
def u1 : KeM := u0.register aT
theorem u0_i : KeI u0 0 := KeI.new (by decide) (by decide)
theorem u0_a : u0.checkE aT = 0 ∧ u0.tk.rows.length = 0 := ⟨by kernel_rfl, rfl⟩
theorem u1_q : QuietK u1 0 := by
  have e : u1 = KeM.event ⟨u0.tk.added aT, u0.dp, u0.ck.add 0 0 0, u0.ev⟩ (evRegister 0) := by
    unfold u1 KeM.register
    rw [if_pos u0_a.1]
    rfl
  refine ⟨u0_i.register (by decide) aT, ?_, ?_, ?_, ?_, ?_, fun h => absurd h (Nat.lt_irrefl _)⟩
  · rw [e]
    intro x hx
    have h2 : u0.ck.add 0 0 0 = ⟨0, [⟨0, 0, 0, 0, false⟩]⟩ := by rfl
    have h3 : x ∈ (u0.ck.add 0 0 0).l := hx
    rw [h2] at h3
    rw [List.mem_singleton] at h3
    subst h3; rfl
  all_goals rw [e]; rfl
end Go.Proofs.YtogcikilphakmaaGreatDoor

/-
  KernelTrace answers true at every number, in every world.
-/
namespace Go.Proofs.YtogcikilphakmaaGreatDoor
open Go.RowKit Spl

attribute [local go_sem] Oper.semAt_some
section
variable {w0 w : World} {R : List Pr}
set_option maxRecDepth 20000 in
set_option maxHeartbeats 16000000 in
theorem trace13 [Lay w0 R] (H : Hd w0 R w) (n : Int) : Calls Tryz.prog 4 #[.int .i64 n] w fun e w' => e = .returned (.bool true) ∧ Hd w0 R w' := by
  obtain ⟨p0, p1, e0, e1, i0, r0, r0l, q1⟩ : ∃ p0 p1 : KeM, KeM.new 4 [] = p0 ∧ p0.register aT = p1 ∧ KeI p0 0 ∧ p0.checkE aT = 0 ∧ p0.tk.rows.length = 0 ∧ QuietK p1 0 := ⟨u0, u1, rfl, rfl, u0_i, u0_a.1, u0_a.2, u1_q⟩
  have h0 := keNew (S := fun _ => none) (R := R) (Hd.ro_nil H) (words := 4) (units := []) srd_nil (by decide)
  obtain ⟨v, hv⟩ : ∃ v : Nat, within n 0 9 = v ∧ v ≤ 9 := by
    have := within_le (n := n) (lo := 0) (hi := 9) (by decide)
    exact ⟨(within n 0 9).toNat, by omega, by omega⟩
  obtain ⟨hv1, hv2⟩ := hv
  have hw := fun (w : World) => within_spec (w := w) n 0 9 (by decide) (by decide) (by decide)
  rw [hv1] at hw
  replace hw := Lib.hid hw
  replace e1 := Lib.hid e1
  replace r0 := Lib.hid r0
  replace r0l := Lib.hid r0l
  replace q1 := Lib.hid q1
  replace i0 := Lib.hid i0
  rw [e0] at h0
  clear H e0 hv1
  go_enter Tryz.func4, Tryz.ntmps4
  go_wp2_with fail
  refine h0.mono ?_
  rintro e w1 ⟨z, rfl, H1⟩
  clear h0
  have hwc := hw.out w1
  go_wp2_with fail
  refine hwc.mono ?_
  rintro e w2 ⟨rfl, rfl⟩
  clear hwc hw
  have hr := keRegisterI H1 i0.out (by decide) aT srd_nil (by decide)
  rw [r0.out, r0l.out, e1.out, if_pos rfl] at hr
  go_wp2_with fail
  refine hr.mono ?_
  rintro e w2 ⟨rfl, S1, -, H2⟩
  clear hr H1
  go_wp2_with fail
  go_loopw [7] (fun y wr => ∃ (k : Nat) (m : KeM), k ≤ 4 ∧ y = .int .i64 k ∧ QuietK m (1000 * k) ∧ Hd w0 (KeL z S1 m R) wr) (fun y _ => 4 - (intOf y).toNat)
  case atStart => exact ⟨0, p1, Nat.zero_le _, rfl, q1.out, H2⟩
  case round =>
    obtain ⟨k, m, hk, rfl, hq, H3⟩ := hrel
    clear H2
    by_cases hlt : k < 4
    · obtain ⟨a, b⟩ := hq.ticks (k := 1000) (by omega)
      have ht := keTickI (n := 1000) H3 hq.i (by omega) (by omega) (by rw [hq.now]; omega) (by omega)
      rw [a] at ht
      have m1 : (k : Int) < 4 := by omega
      have g6 : IntKind.i64.wrap ((k : Int) + 1) = (k : Int) + 1 := IntWalk.i64_in _ (by omega)
      replace b := Lib.hid b
      clear a hq
      go_wp2_with fail
      refine ht.mono ?_
      rintro e w3 ⟨lv, rfl, H4⟩
      clear ht
      obtain ⟨la, lc, rfl, -, -, -, -⟩ := H4.slc_form
      simp only [List.length_nil]
      go_wp2_with fail
      go_roundw
      case rel => exact ⟨k + 1, _, by omega, by simp, b.out, H4.re⟩
      case measure => simp [intOf]; omega
    · obtain rfl : k = 4 := by omega
      obtain ⟨a, b⟩ := hq.ticks (k := 90 + v) (by omega)
      have ht := keTickI (n := 90 + v) H3 hq.i (by omega) (by omega) (by rw [hq.now]; omega) (by omega)
      rw [a, show ((90 + v : Nat) : Int) = 90 + (v : Int) by omega] at ht
      rw [show 1000 * 4 + (90 + v) = 4090 + v by omega] at b
      obtain ⟨m2, hm2⟩ : ∃ m2, (m.ticks (90 + v)).2 = m2 := ⟨_, rfl⟩
      rw [hm2] at ht b
      have g1 : IntKind.i64.wrap (90 + (v : Int)) = 90 + (v : Int) := IntWalk.i64_in _ (by omega)
      have g2 : IntKind.i64.wrap (4091 + (v : Int)) = 4091 + (v : Int) := IntWalk.i64_in _ (by omega)
      have g3 : IntKind.i64.wrap (4090 + (v : Int)) = 4090 + (v : Int) := IntWalk.i64_in _ (by omega)
      replace b := Lib.hid b
      clear a hq hm2
      go_wp2_with fail
      refine ht.mono ?_
      rintro e w3 ⟨lv, rfl, H4⟩
      clear ht H3
      obtain ⟨la, lc, rfl, -, -, -, -⟩ := H4.slc_form
      simp only [List.length_nil]
      have H5 : Hd w0 (KeL z S1 m2 R) w3 := H4.re
      clear H4
      have hev := keEvents H5 b.out.i.e
      go_wp2_with fail
      refine hev.mono ?_
      rintro e w4 ⟨ev, rfl, H6⟩
      clear hev H5
      have hlen := b.out.len
      have hgone := b.out.gone
      have hlast := b.out.last (by omega)
      obtain ⟨L, hL⟩ : ∃ L, m2.ev.l.length = L := ⟨_, rfl⟩
      rw [hL] at hlen
      have hL1 : L ≤ 4096 := by omega
      have hL2 : 4091 ≤ L := by omega
      obtain ⟨J, hJ⟩ : ∃ J, L = J + 1 := ⟨L - 1, by omega⟩
      rw [List.getLast?_eq_getElem?, hL, hJ, Nat.add_sub_cancel] at hlast
      obtain ⟨ge, ce, rfl, H7⟩ := H6.slc_at (by omega)
      have H8 : Hd w0 (KeL z S1 m2 R) w4 := H6.tail
      have dd : ∀ (j : Nat) (u : Value), (Enc.cells (⟨7, 0, 0, ⟨0, 0, 0, 0⟩, 0, ((4090 + v : Nat) : Int)⟩ : EvM))[j]? = some u → w4.cell? ⟨ge, J * 9 + j, none⟩ = some u := fun j u hj => H7.slcC_rd (flat_at hlast hj)
      have hnow := keNow H8
      rw [b.out.now, show ((4090 + v : Nat) : Int) = 4090 + (v : Int) by omega] at hnow
      have hdr := keDropped H8
      obtain ⟨G, hG⟩ : ∃ G, m2.ev.gone = G := ⟨_, rfl⟩
      rw [hG] at hdr hgone
      rw [hL]
      have hrun := runs13 H8
      replace hrun := Lib.hid hrun
      replace hnow := Lib.hid hnow
      by_cases hv5 : v ≤ 5
      · have c1 : 4091 + (v : Int) ≤ 4096 := by omega
        have c2 : ¬ (4096 : Int) < 4091 + (v : Int) := by omega
        obtain rfl : G = 0 := by omega
        obtain rfl : L = 4091 + v := by omega
        obtain rfl : J = 4090 + v := by omega
        have g5 : IntKind.i64.wrap (4091 + (v : Int) - 1) = 4090 + (v : Int) := by
          rw [show 4091 + (v : Int) - 1 = 4090 + (v : Int) by omega]; exact g3
        have m5 : ¬ 4090 + (v : Int) < 0 := by omega
        have m6 : 4090 + (v : Int) < 4091 + (v : Int) := by omega
        have m7 : ¬ 4091 + v ≤ 4090 + v := by omega
        have d0 := dd 0 _ rfl
        have d1 := dd 1 _ rfl
        have d2 := dd 2 _ rfl
        have d3 := dd 3 _ rfl
        have d4 := dd 4 _ rfl
        have d5 := dd 5 _ rfl
        have d6 := dd 6 _ rfl
        have d7 := dd 7 _ rfl
        have d8 := dd 8 _ rfl
        rw [show ((4090 + v : Nat) : Int) = 4090 + (v : Int) by omega] at d8
        rw [Nat.add_zero] at d0
        clear dd hlast hlen hgone hL hJ hL1 hL2 H6 H7 hv5 hG b
        go_wp2_with fail
        refine hdr.mono ?_
        rintro e w5 ⟨rfl, rfl⟩
        go_wp2_with fail
        refine hdr.mono ?_
        rintro e w5 ⟨rfl, rfl⟩
        clear hdr
        go_wp2_with fail
        refine hnow.out.mono ?_
        rintro e w6 ⟨rfl, rfl⟩
        go_wp2_with fail
        refine hrun.out.mono ?_
        rintro e w7 ⟨rfl, H9⟩
        clear hrun hnow
        go_wp2_with fail
        go_ret
        exact ⟨rfl, H9.re⟩
      · obtain rfl : L = 4096 := by omega
        obtain rfl : J = 4095 := by omega
        have c1 : ¬ 4091 + (v : Int) ≤ 4096 := by omega
        have c2 : (4096 : Int) < 4091 + (v : Int) := by omega
        have g4 : IntKind.i64.wrap ((G : Int) + 4096) = 4091 + (v : Int) := by
          rw [show (G : Int) + 4096 = 4091 + (v : Int) by omega]; exact g2
        have d0 := dd 0 _ rfl
        have d1 := dd 1 _ rfl
        have d2 := dd 2 _ rfl
        have d3 := dd 3 _ rfl
        have d4 := dd 4 _ rfl
        have d5 := dd 5 _ rfl
        have d6 := dd 6 _ rfl
        have d7 := dd 7 _ rfl
        have d8 := dd 8 _ rfl
        rw [show ((4090 + v : Nat) : Int) = 4090 + (v : Int) by omega] at d8
        simp only [Nat.reduceMul, Nat.reduceAdd] at d0 d1 d2 d3 d4 d5 d6 d7 d8
        clear dd hlast hlen hgone hL hJ hL1 hL2 H6 H7 hv5 hG b
        go_wp2_with fail
        refine hdr.mono ?_
        rintro e w5 ⟨rfl, rfl⟩
        clear hdr
        go_wp2_with fail
        refine hnow.out.mono ?_
        rintro e w6 ⟨rfl, rfl⟩
        go_wp2_with fail
        refine hrun.out.mono ?_
        rintro e w7 ⟨rfl, H9⟩
        clear hrun hnow
        go_wp2_with fail
        go_ret
        exact ⟨rfl, H9.re⟩
end
end Go.Proofs.YtogcikilphakmaaGreatDoor
