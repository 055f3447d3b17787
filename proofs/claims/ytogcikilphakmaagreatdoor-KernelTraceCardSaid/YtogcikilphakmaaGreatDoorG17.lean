/-
  Merged texts of one proof: Rel5, Ro, StkRow, UnM, Un1.
-/
import Derived.BigQuiet
import Derived.Deep.QuietTactic
import Derived.Deep.RegionLaw
import Derived.IntWalk
import Derived.RegionTactic
import Derived.StillTailTactics
import Derived.Test.YtogcikilphakmaaGreatDoorG03
import Derived.Test.YtogcikilphakmaaGreatDoorG06
import Derived.Test.YtogcikilphakmaaGreatDoorG09
import Derived.Test.YtogcikilphakmaaGreatDoorG15
import Derived.Test.YtogcikilphakmaaGreatDoorG16
import Derived.Test.YtogcikilphakmaaGreatDoorRows

/-
  Package release over the separation logic: Tick. Every clock.
-/
namespace Go.Proofs.YtogcikilphakmaaGreatDoor
open Go.RowKit Spl

section
variable {w0 w : World} {R : List Pr} {c : Nat} {m : Clk}

theorem patList {s o T : Nat} {C : Array Value} {v : Value} {n : Nat} {xs : List Value} (H : Hd w0 (cel s T C :: Slc 134 1 v n xs :: R) w) (hC : C[o]? = some v) (hn : n ≤ 1000000) (h1 : ∀ u ∈ xs, u.oneCell' = true) :
    Calls Tryz.prog 64 #[.pointer (some ⟨s, o, none⟩)] w fun e w' => ∃ g, e = .returned (.slice (some ⟨g, 0, none⟩) n n) ∧
      Hd w0 (SlcC 134 1 g n n xs :: cel s T C :: Slc 134 1 v n xs :: R) w' := by
  have c0 : w.cell? ⟨s, o, none⟩ = some v := (H.rd o).trans hC
  have hcall := patCopied H.b2 hn h1
  obtain ⟨a, cap, rfl, _, _, _, _⟩ := H.b2.slc_form
  go_enter Tryz.func64, Tryz.ntmps64
  go_wp2_with (go_at_call 100; refine hcall.mono ?_; rintro e w' ⟨g, rfl, H2⟩)
  go_ret
  exact ⟨g, rfl, H2.b3.b2⟩

theorem pp_one (bs : List Nat) : ∀ u ∈ bs.map pp, u.oneCell' = true := by
  intro u hu
  obtain ⟨b, _, rfl⟩ := List.mem_map.1 hu
  rfl

def TickI (w0 : World) (R : List Pr) (c g : Nat) (v : Value) (m : Clk) (bs : List Nat) (k : Nat) (x : Value) (wr : World) : Prop :=
  Hd w0 (SlcC 134 1 g m.l.length m.l.length (bs.map pp) :: cel c 122 #[.int .i64 (m.now + 1), v] :: Slc 134 1 v m.l.length (bs.map pp) ::
    Slc 3 1 x (idsTo (m.now + 1) m.l k).length ((idsTo (m.now + 1) m.l k).map (Value.int .i64)) :: all (List.zipWith patB bs (tickTo (m.now + 1) m.l k)) :: R) wr

set_option maxRecDepth 20000 in
set_option maxHeartbeats 1000000 in
theorem clkTick (H : Hd w0 (Clock c m :: R) w) (hm : m.Ok) :
    Calls Tryz.prog 35 #[pp c] w fun e w' => ∃ a, e = .returned (.tuple #[.slice a m.tickL.length m.tickL.length, .int .i64 m.tickE]) ∧
      Hd w0 (Slc 3 1 (.slice a m.tickL.length m.tickL.length) m.tickL.length (m.tickL.map (Value.int .i64)) :: Clock c m.tick :: R) w' := by
  obtain ⟨v, bs, hl, H1⟩ := Clock.opened H
  have hlen := hm.len
  have n0 := hm.n0
  have c0 := H1.rd 0
  have f0 := H1.fr 0
  unfold pp
  by_cases he : 1099511627776 ≤ m.now
  · have h1 : m.tickL = [] := by simp [Clk.tickL, Clk.atEnd, he]
    have h2 : m.tickE = 1 := by simp [Clk.tickE, Clk.atEnd, he]
    have h3 : m.tick = m := by simp [Clk.tick, Clk.atEnd, he]
    rw [h1, h2, h3]
    clear h1 h2 h3 H1
    go_enter Tryz.func35, Tryz.ntmps35
    go_wp2
    go_ret2
    exact ⟨none, rfl, H.slc_nil _ _⟩
  · have h1 : m.tickL = dueIds (m.now + 1) 0 m.l := by simp [Clk.tickL, Clk.atEnd, he]
    have h2 : m.tickE = 0 := by simp [Clk.tickE, Clk.atEnd, he]
    have h3 : m.tick = ⟨m.now + 1, m.l.map (Pat.tick (m.now + 1))⟩ := by simp [Clk.tick, Clk.atEnd, he]
    rw [h1, h2, h3]
    clear h1 h2 h3
    have HS : Hd w0 (cel c 122 #[.int .i64 (m.now + 1), v] :: Slc 134 1 v m.l.length (bs.map pp) :: _) _ := H1.set 0 (.int .i64 (m.now + 1))
    have hcall := patList (o := 1) HS rfl (by omega) (pp_one bs)
    clear H H1
    go_enter Tryz.func35, Tryz.ntmps35
    go_wp2_with (go_at_call 64; refine hcall.mono ?_; rintro e w1 ⟨g, rfl, H2⟩; clear hcall HS)
    go_loopw [4, 24] (fun x i wr => ∃ k : Nat, k ≤ m.l.length ∧ i = .int .i64 k ∧ TickI w0 R c g v m bs k x wr) (fun _ i _ => m.l.length - (intOf i).toNat)
    case atStart =>
      refine ⟨0, Nat.zero_le _, rfl, ?_⟩
      unfold TickI
      rw [idsTo_zero, tickTo_zero]
      exact (H2.slc_nil 3 1).d4
    case round =>
      obtain ⟨k, hk, rfl, HI⟩ := hrel
      by_cases hlt : k < m.l.length
      · obtain ⟨p, hp⟩ : ∃ p, m.l[k]? = some p := ⟨m.l[k], List.getElem?_eq_getElem hlt⟩
        obtain ⟨b, hb⟩ : ∃ b, bs[k]? = some b := ⟨bs[k]'(by omega), List.getElem?_eq_getElem _⟩
        have hp2 := tickTo_at (now := m.now + 1) hp
        have hok := hm.pat p (List.mem_of_getElem? hp)
        have q0 := hok.p0; have q1 := hok.p1; have q2 := hok.d0; have q3 := hok.d1
        have HI' := HI
        unfold TickI at HI
        have cg := HI.slcC_rd (j := k) (u := pp b) (by simp [hb])
        have cc := HI.b2.rd 0
        have HP := HI.b5.row_nth hb hp2
        have cp : ∀ j, wr.cell? ⟨b, j, none⟩ = p.cells[j]? := HP.rd
        have fp : ∀ j, wr.frozen? ⟨b, j, none⟩ = false := HP.fr
        simp only [Pat.cells] at cp
        unfold pp at cg
        clear hok
        by_cases h1 : 0 < p.period
        · by_cases h2 : p.due = m.now + 1
          · have hd : (p.due == m.now + 1) = true := by simpa using h2
            have hdue : p.isDue (m.now + 1) = true := by simp [Pat.isDue, h1, h2]
            have hs : IntKind.i64.wrap (p.due + p.period) = p.due + p.period := IntWalk.i64_in _ (by omega)
            have hidl := idsTo_length (m.now + 1) m.l k
            have HQ : Hd w0 (patB b { p with due := p.due + p.period } :: _) _ := HP.set 2 (.int .i64 (p.due + p.period))
            have HQ2 := (HQ.row_back (b' := { p with due := p.due + p.period }) hb hp2).b5
            have et : p.tick (m.now + 1) = { p with due := p.due + p.period } := by simp [Pat.tick, hdue]
            rw [← et, ← tickTo_succ hp] at HQ2
            obtain ⟨i0, hi, hz0, hz1, hz2⟩ := info_parts infoInt
            clear HI HQ HP et h2 HI'
            go_wp2_with (first | go_quiet (fail) | (refine wp_region_still_tail 11 (by kernel_rfl) (by kernel_rfl) ?_; simp only [List.take_succ_cons, List.take_zero, List.drop_succ_cons, List.drop_zero, World.drew_eq]; (repeat still_step); refine wpStill_nil ?_) | (at_builtin; (refine wpList_append_slc rfl _ _ 26 rfl 3 i0 _ 1 8 Tryz.underlying26 hi hz0 hz1 hz2 rfl _ _ _ rfl (((HQ2.alloc _).drewN _).b2) ⟨_, 0, none⟩ 1 1 [.int .i64 k] rfl rfl (one_new (by simp)) (by simp [Value.oneCell']) (by unfold maxLen; omega) (by omega) ?_); intro v' w2 H3))
            go_roundw
            case rel =>
              refine ⟨k + 1, by omega, by go_num, ?_⟩
              unfold TickI
              rw [idsTo_due hp hdue, List.map_append, List.length_append]
              exact H3.b2.tail.d5.d5
            case measure => simp [intOf]; omega
          · have hd : (p.due == m.now + 1) = false := by simpa using h2
            have hnd : p.isDue (m.now + 1) = false := by simp [Pat.isDue, h2]
            go_wp2_with (go_quiet (fail))
            go_roundw
            case rel =>
              refine ⟨k + 1, by omega, by go_num, ?_⟩
              unfold TickI at HI' ⊢
              rw [idsTo_not hp hnd, tickTo_same hp hnd]
              exact HI'.drewN _
            case measure => simp [intOf]; omega
        · have hnd : p.isDue (m.now + 1) = false := by simp [Pat.isDue, h1]
          go_wp2_with (go_quiet (fail))
          go_roundw
          case rel =>
            refine ⟨k + 1, by omega, by go_num, ?_⟩
            unfold TickI at HI' ⊢
            rw [idsTo_not hp hnd, tickTo_same hp hnd]
            exact HI'.drewN _
          case measure => simp [intOf]; omega
      · obtain rfl : k = m.l.length := by omega
        unfold TickI at HI
        rw [idsTo_all, tickTo_all] at HI
        have fin : ∀ {a : Option Addr} {wf : World}, Hd w0 (Slc 3 1 (.slice a (dueIds (m.now + 1) 0 m.l).length (dueIds (m.now + 1) 0 m.l).length) (dueIds (m.now + 1) 0 m.l).length ((dueIds (m.now + 1) 0 m.l).map (Value.int .i64)) ::
            SlcC 134 1 g m.l.length m.l.length (bs.map pp) :: cel c 122 #[.int .i64 (m.now + 1), v] :: Slc 134 1 v m.l.length (bs.map pp) :: all (List.zipWith patB bs (m.l.map (Pat.tick (m.now + 1)))) :: R) wf →
            Hd w0 (Slc 3 1 (.slice a (dueIds (m.now + 1) 0 m.l).length (dueIds (m.now + 1) 0 m.l).length) (dueIds (m.now + 1) 0 m.l).length ((dueIds (m.now + 1) 0 m.l).map (Value.int .i64)) :: Clock c ⟨m.now + 1, m.l.map (Pat.tick (m.now + 1))⟩ :: R) wf := by
          intro a wf h
          have h2 := h.b2.tail.b4.b4.b4
          have e1 : m.l.length = (m.l.map (Pat.tick (m.now + 1))).length := by simp
          rw [e1] at h2
          exact (Clock.shut (m := ⟨m.now + 1, m.l.map (Pat.tick (m.now + 1))⟩) h2 (by simpa using hl)).b2
        rcases HI.b4.slc with ⟨rfl, hz, hx, _⟩ | ⟨gx, cx, rfl, HX⟩
        · have hz' : dueIds (m.now + 1) 0 m.l = [] := List.eq_nil_of_length_eq_zero hz
          rw [hz'] at fin HI
          have F := fin (a := none) HI.b4
          clear fin HI
          go_wp2
          go_ret2
          rw [hz']
          exact ⟨none, rfl, F⟩
        · have hcx := HX.slcC.2.1
          have HY := (HX.slcC_cut (Nat.le_refl _) (Nat.le_refl _) hcx)
          rw [Nat.mul_one, List.take_of_length_le (by simp)] at HY
          have HZ := fin HY.slc_mk
          clear fin HY HX HI
          go_wp2
          go_ret2
          exact ⟨_, rfl, HZ⟩
end
end Go.Proofs.YtogcikilphakmaaGreatDoor

/-
  Memory that is only read from here on: one part of the heap, told whole; slices that lie in it. No program in sight.
-/
namespace Go.Proofs.YtogcikilphakmaaGreatDoor
open Go.RowKit Spl

namespace Spl
/-- Just this part of the heap. -/
def ro (S : Hp) : Pr := fun h => h = S
def Le (S S' : Hp) : Prop := ∀ i o, S i = some o → S' i = some o
theorem Le.refl (S : Hp) : Le S S := fun _ _ h => h
theorem Le.trans {A B C : Hp} (h : Le A B) (k : Le B C) : Le A C := fun i o x => k i o (h i o x)
/-- A slice's value whose contents lie in S. -/
def Ros (S : Hp) (e : TypeId) (size : Nat) (v : Value) (n : Nat) (xs : List Value) : Prop :=
  (v = .slice none 0 0 ∧ n = 0 ∧ xs = []) ∨ ∃ g cap sp, v = .slice (some ⟨g, 0, none⟩) n cap ∧ n ≤ cap ∧ cap ≤ maxLen ∧ xs.length = n * size ∧ S g = some (.cells (xs ++ sp).toArray e (0, 0))
theorem Ros.mono {S S' : Hp} {e : TypeId} {size : Nat} {v : Value} {n : Nat} {xs : List Value} (h : Ros S e size v n xs) (k : Le S S') : Ros S' e size v n xs := by
  rcases h with h | ⟨g, cap, sp, h1, h2, h3, h4, h5⟩
  · exact .inl h
  · exact .inr ⟨g, cap, sp, h1, h2, h3, h4, k _ _ h5⟩
theorem Ros.len {S : Hp} {e : TypeId} {size : Nat} {v : Value} {n : Nat} {xs : List Value} (h : Ros S e size v n xs) : xs.length = n * size := by
  rcases h with ⟨_, rfl, rfl⟩ | ⟨g, cap, sp, h1, h2, h3, h4, h5⟩
  · simp
  · exact h4
abbrev RoE {α : Type} [Enc α] (S : Hp) (e : TypeId) (v : Value) (l : List α) : Prop := Ros S e (Enc.size α) v l.length (flat l)
end Spl

section
variable {w0 w : World} {R : List Pr} {S : Hp}
instance (S : Hp) : Key (ro S) (.b 0) := ⟨trivial⟩
theorem Hd.ro_heap (H : Hd w0 (ro S :: R) w) {i : Nat} {o : Obj} (h : S i = some o) : w.heap[i]? = some o := by
  obtain ⟨_, a, c, d, e, ha, _⟩ := H
  have hb : a i = some o := by rw [ha]; exact h
  have := congrFun e i
  rw [join_left hb] at this
  exact this
theorem Hd.ro_cell (H : Hd w0 (ro S :: R) w) {i : Nat} {c : Array Value} {T : TypeId} {f : Nat × Nat} (h : S i = some (.cells c T f)) (j : Nat) : w.cell? ⟨i, j, none⟩ = c[j]? :=
  cell_of_row w i j c T f (H.ro_heap h)
theorem Hd.ro_news (H : Hd w0 (ro S :: R) w) {e : TypeId} {size : Nat} {a : Option Addr} {n m cap : Nat} {xs : List Value} (h : Ros S e size (.slice a n cap) m xs) :
    n = m ∧ (a = none → m = 0) ∧ ∀ ad, a = some ad → ∀ j u, xs[j]? = some u → w.cell? (ad.add j) = some u := by
  rcases h with ⟨hv, hm, hx⟩ | ⟨g, cap', sp, hv, _, _, _, hS⟩
  · injection hv with h1 h2 h3
    subst h1; subst h2; subst hm; subst hx
    exact ⟨rfl, fun _ => rfl, fun ad h => by cases h⟩
  · injection hv with h1 h2 h3
    subst h1; subst h2
    refine ⟨rfl, (fun h => by cases h), fun ad had j u hj => ?_⟩
    injection had with had
    subst had
    rw [add0, H.ro_cell hS j]
    simp only [List.getElem?_toArray]
    rw [List.getElem?_append_left (lt_of_get? hj)]
    exact hj
theorem Hd.ro_rd (H : Hd w0 (ro S :: R) w) {e : TypeId} {size g : Nat} {n m cap : Nat} {xs : List Value} (h : Ros S e size (.slice (some ⟨g, 0, none⟩) n cap) m xs) {j : Nat} {u : Value} (hj : xs[j]? = some u) : w.cell? ⟨g, j, none⟩ = some u := by
  have := (H.ro_news h).2.2 _ rfl j u hj
  rwa [add0] at this
theorem Ros.form {e : TypeId} {size : Nat} {a : Option Addr} {n m cap : Nat} {xs : List Value} (h : Ros S e size (.slice a n cap) m xs) : n = m := by
  rcases h with ⟨hv, hm, hx⟩ | ⟨g, cap', sp, hv, _, _, _, hS⟩
  · injection hv with h1 h2 h3; omega
  · injection hv with h1 h2 h3
/-- A slice is laid among what is only read. -/
theorem Hd.ro_in {e : TypeId} {size : Nat} {v : Value} {n : Nat} {xs : List Value} (H : Hd w0 (Slc e size v n xs :: ro S :: R) w) : ∃ S', Le S S' ∧ Ros S' e size v n xs ∧ Hd w0 (ro S' :: R) w := by
  obtain ⟨hc, p, q, d, e1, hp, a', b', d', e2, ha', hb'⟩ := H
  rcases hp with ⟨rfl, rfl, rfl⟩ | ⟨g, cap, rfl, h1, h2, h3, sp, hs, hp4⟩
  · refine ⟨S, Le.refl S, .inl ⟨rfl, rfl, rfl⟩, hc, a', join b' p, ?_, ?_, ha', ?_⟩
    · exact disj_join.2 ⟨d', disj_symm (disj_join.1 (e2 ▸ d)).1⟩
    · rw [e1, e2, join_comm (e2 ▸ d), join_assoc]
    · exact sat_mono ⟨p, disj_symm (disj_join.1 (e2 ▸ d)).2, rfl⟩ hb'
  · obtain ⟨dpa, dpb⟩ := disj_join.1 (e2 ▸ d)
    refine ⟨join a' p, ?_, ?_, hc, join a' p, b', ?_, ?_, rfl, hb'⟩
    · intro i o h
      have h' : a' i = some o := by rw [ha']; exact h
      exact join_left h'
    · refine .inr ⟨g, cap, sp, rfl, h2, h3, h1, ?_⟩
      refine join_right (disj_symm dpa) ?_
      rw [hp4]; simp
    · exact join_disj.2 ⟨d', dpb⟩
    · rw [e1, e2, ← join_assoc, join_comm dpa]
theorem Src.ro {α : Type} [Enc α] {e : TypeId} {v : Value} {l : List α} (h : RoE S e v l) : Src w0 (Spl.ro S :: R) v l := by
  rcases id h with ⟨hv, hn, hx⟩ | ⟨g, cap, sp, hv, _, _, hl, hS⟩
  · exact .inl ⟨hv, List.eq_nil_of_length_eq_zero hn⟩
  · exact .inr ⟨_, cap, hv, fun H => by subst hv; exact (H.ro_news h).2.2 _ rfl⟩
/-- A slice that starts its block and reads as a list in every world that keeps R. -/
def Srd {α : Type} [Enc α] (w0 : World) (R : List Pr) (v : Value) (l : List α) : Prop :=
  (v = .slice none 0 0 ∧ l = []) ∨ ∃ g c, v = .slice (some ⟨g, 0, none⟩) l.length c ∧ ∀ {w1 : World}, Hd w0 R w1 → ∀ (j : Nat) (u : Value), (flat l)[j]? = some u → w1.cell? ⟨g, j, none⟩ = some u
theorem Srd.src {α : Type} [Enc α] {v : Value} {l : List α} (h : Srd w0 R v l) : Src w0 R v l := by
  rcases h with h | ⟨g, c, hv, hs⟩
  · exact .inl h
  · exact .inr ⟨_, c, hv, fun H j u hj => by rw [add0]; exact hs H j u hj⟩
theorem Srd.slE {α : Type} [Enc α] {e : TypeId} {v : Value} {l : List α} (H : Hd w0 (SlE e v l :: R) w) : Srd w0 (SlE e v l :: R) v l := by
  rcases H.slc with ⟨h, h2, h3, _⟩ | ⟨g, c, h, _⟩
  · exact .inl ⟨h, List.eq_nil_of_length_eq_zero h2⟩
  · subst h
    refine .inr ⟨g, c, rfl, fun H1 j u hj => ?_⟩
    have := H1.slc_news.2 _ rfl j u hj
    rwa [add0] at this
theorem Srd.ro {α : Type} [Enc α] {e : TypeId} {v : Value} {l : List α} (h : RoE S e v l) : Srd w0 (Spl.ro S :: R) v l := by
  rcases id h with ⟨hv, hn, hx⟩ | ⟨g, cap, sp, hv, _, _, hl, hS⟩
  · exact .inl ⟨hv, List.eq_nil_of_length_eq_zero hn⟩
  · exact .inr ⟨g, cap, hv, fun H j u hj => by subst hv; exact H.ro_rd h hj⟩
theorem Srd.of {α : Type} [Enc α] {M : List Pr} {v : Value} {l : List α} (h : Srd w0 R v l) (hs : ∀ {w1 : World}, Hd w0 M w1 → Hd w0 R w1) : Srd w0 M v l := by
  rcases h with h | ⟨g, c, h, h2⟩
  · exact .inl h
  · exact .inr ⟨g, c, h, fun H => h2 (hs H)⟩
theorem Srd.form {α : Type} [Enc α] {v : Value} {l : List α} (h : Srd w0 R v l) : ∃ a c, v = .slice a l.length c := by
  rcases h with ⟨h, rfl⟩ | ⟨g, c, h, _⟩
  · exact ⟨none, 0, h⟩
  · exact ⟨_, c, h⟩
theorem Srd.at {α : Type} [Enc α] {v : Value} {l : List α} (h : Srd w0 R v l) {k : Nat} {x : α} (hk : l[k]? = some x) :
    ∃ g c, v = .slice (some ⟨g, 0, none⟩) l.length c ∧ k < l.length ∧ ∀ {w1 : World}, Hd w0 R w1 → ∀ (j : Nat) (u : Value), (Enc.cells x)[j]? = some u → w1.cell? ⟨g, k * Enc.size α + j, none⟩ = some u := by
  rcases h with ⟨h, rfl⟩ | ⟨g, c, h, hs⟩
  · simp at hk
  · exact ⟨g, c, h, lt_of_get? hk, fun H j u hj => hs H _ _ (flat_at hk hj)⟩
end
end Go.Proofs.YtogcikilphakmaaGreatDoor

/-
  shelf.Stack of row over the separation logic. Every stack, every element.
-/
namespace Go.Proofs.YtogcikilphakmaaGreatDoor
open Go.RowKit Spl

theorem stkInfo_row : (Tryz.prog.info? 127).map (fun i => (i.zero, i.size, i.bytes)) = some (some (.agg #[.string ⟨#[]⟩, .int .i64 0, .int .i64 0, .slice none 0 0, .string ⟨#[]⟩, .int .i64 0, .int .i64 0, .int .i64 0, .slice none 0 0]), 9, 120) := by kernel_rfl
section
variable {w0 w : World} {R : List Pr} {s o T : Nat} {C : Array Value} {v : Value} {l : List RowV}

/-- Len -/
theorem stkLen_row (H : Hd w0 (cel s T C :: SlE 127 v l :: R) w) (hC : C[o]? = some v) :
    Calls Tryz.prog 48 #[.pointer (some ⟨s, o, none⟩)] w fun e w' => e = .returned (.int .i64 l.length) ∧ w = w' := by
  have c0 : w.cell? ⟨s, o, none⟩ = some v := (H.rd o).trans hC
  obtain ⟨a, cap, rfl, _, _, _, _⟩ := H.b2.slc_form
  clear H hC
  go_enter Tryz.func48, Tryz.ntmps48
  go_wp2
  go_ret
  exact ⟨rfl, rfl⟩

set_option maxHeartbeats 1600000 in
/-- Push -/
theorem stkPush_row (H : Hd w0 (cel s T C :: SlE 127 v l :: R) w) (hC : C[o]? = some v) (hn : l.length ≤ 100000) (x : RowV) :
    Calls Tryz.prog 51 #[.pointer (some ⟨s, o, none⟩), .agg #[.string x.nm, .int .i64 x.lv, .int .i64 x.fr, .slice x.na x.nl x.nc, .string x.cd, .int .i64 x.p, .int .i64 x.f, .int .i64 x.g, .slice x.sa x.sl x.sc]] w fun e w' =>
      e = .returned (.tuple #[]) ∧ ∃ v', Hd w0 (cel s T (C.setIfInBounds o v') :: SlE 127 v' (l ++ [x]) :: R) w' := by
  obtain ⟨i0, hi, hz0, hz1, hz2⟩ := info_parts stkInfo_row
  obtain ⟨a, cap, rfl, _, _, _, _⟩ := H.b2.slc_form
  have HB := H.alloc (.cells #[.string x.nm, .int .i64 x.lv, .int .i64 x.fr, .slice x.na x.nl x.nc, .string x.cd, .int .i64 x.p, .int .i64 x.f, .int .i64 x.g, .slice x.sa x.sl x.sc] 127)
  have c0 := HB.b2.rd o
  rw [hC] at c0
  have HP0 : Hd w0 _ (((w.alloc (.cells #[.string x.nm, .int .i64 x.lv, .int .i64 x.fr, .slice x.na x.nl x.nc, .string x.cd, .int .i64 x.p, .int .i64 x.f, .int .i64 x.g, .slice x.sa x.sl x.sc] 127)).alloc (.cells #[.string x.nm, .int .i64 x.lv, .int .i64 x.fr, .slice x.na x.nl x.nc, .string x.cd, .int .i64 x.p, .int .i64 x.f, .int .i64 x.g, .slice x.sa x.sl x.sc] 127)).drew) := H.fol
  have HP := HP0.b4
  have g0 := HP.b4.rd o
  have k0 := HP.b4.fr o
  rw [hC] at g0
  have hnews := cel_news HP.b2
  have hS : ∀ {v' : Value} {L : List Pr} {w : World}, Hd w0 (Slc 127 9 v' (l.length + 1) (flat l ++ [.string x.nm, .int .i64 x.lv, .int .i64 x.fr, .slice x.na x.nl x.nc, .string x.cd, .int .i64 x.p, .int .i64 x.f, .int .i64 x.g, .slice x.sa x.sl x.sc]) :: L) w → Hd w0 (SlE 127 v' (l ++ [x]) :: L) w := by
    intro v' L w h
    have e1 : (l ++ [x]).length = l.length + 1 := by simp
    have e2 : flat (l ++ [x]) = flat l ++ [.string x.nm, .int .i64 x.lv, .int .i64 x.fr, .slice x.na x.nl x.nc, .string x.cd, .int .i64 x.p, .int .i64 x.f, .int .i64 x.g, .slice x.sa x.sl x.sc] := by rw [flat_append, flat_one]; rfl
    unfold SlE
    rw [e1, e2]
    exact h
  clear H
  go_enter Tryz.func51, Tryz.ntmps51
  go_wp2_with fail
  go_region_law (first | ((refine step_append_slc rfl _ _ 97 rfl 127 i0 _ 9 120 Tryz.underlying97 hi hz0 hz1 hz2 rfl _ _ _ rfl HP ⟨_, 0, none⟩ 1 1 _ rfl rfl hnews (Enc.one x) (by unfold maxLen; omega) (by omega) ?_); intro v' w2 H4; obtain ⟨a', cap', rfl, _, _, _, _⟩ := H4.slc_form; have d1 := H4.b4.rd o; have f6 := H4.b4.fr o; rw [hC] at d1))
  all_goals
    have HF := hS ((H4.b4.set o (.slice a' (l.length + 1) cap')).b2)
    go_wp2_with fail
    go_end0
    exact ⟨rfl, .slice a' (l.length + 1) cap', HF.re⟩

/-- At, where there is an element -/
theorem stkAt_row (H : Hd w0 (cel s T C :: SlE 127 v l :: R) w) (hC : C[o]? = some v) (hn : l.length ≤ 100000) (i : Nat) (x : RowV) (hx : l[i]? = some x) :
    Calls Tryz.prog 92 #[.pointer (some ⟨s, o, none⟩), .int .i64 i] w fun e w' => e = .returned (.tuple #[.agg #[.string x.nm, .int .i64 x.lv, .int .i64 x.fr, .slice x.na x.nl x.nc, .string x.cd, .int .i64 x.p, .int .i64 x.f, .int .i64 x.g, .slice x.sa x.sl x.sc], .bool true]) ∧ Hd w0 (cel s T C :: SlE 127 v l :: R) w' := by
  have HA : Hd w0 _ (w.alloc (.cells #[.string ⟨#[]⟩, .int .i64 0, .int .i64 0, .slice none 0 0, .string ⟨#[]⟩, .int .i64 0, .int .i64 0, .int .i64 0, .slice none 0 0] 127)) := H.fol
  have hi := lt_of_get? hx
  obtain ⟨g, cap, rfl, H2⟩ := HA.b3.slc_at (by omega)
  have c0 := HA.b2.rd o
  rw [hC] at c0
  have c1 : (w.alloc (.cells #[.string ⟨#[]⟩, .int .i64 0, .int .i64 0, .slice none 0 0, .string ⟨#[]⟩, .int .i64 0, .int .i64 0, .int .i64 0, .slice none 0 0] 127)).cell? ⟨g, i * 9, none⟩ = some (.string x.nm) := H2.slcC_rd (flat_at hx (j := 0) (u := .string x.nm) rfl)
  have c2 : (w.alloc (.cells #[.string ⟨#[]⟩, .int .i64 0, .int .i64 0, .slice none 0 0, .string ⟨#[]⟩, .int .i64 0, .int .i64 0, .int .i64 0, .slice none 0 0] 127)).cell? ⟨g, i * 9 + 1, none⟩ = some (.int .i64 x.lv) := H2.slcC_rd (flat_at hx (j := 1) (u := .int .i64 x.lv) rfl)
  have c3 : (w.alloc (.cells #[.string ⟨#[]⟩, .int .i64 0, .int .i64 0, .slice none 0 0, .string ⟨#[]⟩, .int .i64 0, .int .i64 0, .int .i64 0, .slice none 0 0] 127)).cell? ⟨g, i * 9 + 2, none⟩ = some (.int .i64 x.fr) := H2.slcC_rd (flat_at hx (j := 2) (u := .int .i64 x.fr) rfl)
  have c4 : (w.alloc (.cells #[.string ⟨#[]⟩, .int .i64 0, .int .i64 0, .slice none 0 0, .string ⟨#[]⟩, .int .i64 0, .int .i64 0, .int .i64 0, .slice none 0 0] 127)).cell? ⟨g, i * 9 + 3, none⟩ = some (.slice x.na x.nl x.nc) := H2.slcC_rd (flat_at hx (j := 3) (u := .slice x.na x.nl x.nc) rfl)
  have c5 : (w.alloc (.cells #[.string ⟨#[]⟩, .int .i64 0, .int .i64 0, .slice none 0 0, .string ⟨#[]⟩, .int .i64 0, .int .i64 0, .int .i64 0, .slice none 0 0] 127)).cell? ⟨g, i * 9 + 4, none⟩ = some (.string x.cd) := H2.slcC_rd (flat_at hx (j := 4) (u := .string x.cd) rfl)
  have c6 : (w.alloc (.cells #[.string ⟨#[]⟩, .int .i64 0, .int .i64 0, .slice none 0 0, .string ⟨#[]⟩, .int .i64 0, .int .i64 0, .int .i64 0, .slice none 0 0] 127)).cell? ⟨g, i * 9 + 5, none⟩ = some (.int .i64 x.p) := H2.slcC_rd (flat_at hx (j := 5) (u := .int .i64 x.p) rfl)
  have c7 : (w.alloc (.cells #[.string ⟨#[]⟩, .int .i64 0, .int .i64 0, .slice none 0 0, .string ⟨#[]⟩, .int .i64 0, .int .i64 0, .int .i64 0, .slice none 0 0] 127)).cell? ⟨g, i * 9 + 6, none⟩ = some (.int .i64 x.f) := H2.slcC_rd (flat_at hx (j := 6) (u := .int .i64 x.f) rfl)
  have c8 : (w.alloc (.cells #[.string ⟨#[]⟩, .int .i64 0, .int .i64 0, .slice none 0 0, .string ⟨#[]⟩, .int .i64 0, .int .i64 0, .int .i64 0, .slice none 0 0] 127)).cell? ⟨g, i * 9 + 7, none⟩ = some (.int .i64 x.g) := H2.slcC_rd (flat_at hx (j := 7) (u := .int .i64 x.g) rfl)
  have c9 : (w.alloc (.cells #[.string ⟨#[]⟩, .int .i64 0, .int .i64 0, .slice none 0 0, .string ⟨#[]⟩, .int .i64 0, .int .i64 0, .int .i64 0, .slice none 0 0] 127)).cell? ⟨g, i * 9 + 8, none⟩ = some (.slice x.sa x.sl x.sc) := H2.slcC_rd (flat_at hx (j := 8) (u := .slice x.sa x.sl x.sc) rfl)
  have HB := (H.alloc (.cells #[.string x.nm, .int .i64 x.lv, .int .i64 x.fr, .slice x.na x.nl x.nc, .string x.cd, .int .i64 x.p, .int .i64 x.f, .int .i64 x.g, .slice x.sa x.sl x.sc] 127)).tail
  clear H2 hx hC H HA
  go_enter Tryz.func92, Tryz.ntmps92
  go_wp2
  (try simp only [Exit.inBlock, Exit.then])
  refine bodyPost_ret (v := .tuple #[.agg #[.string x.nm, .int .i64 x.lv, .int .i64 x.fr, .slice x.na x.nl x.nc, .string x.cd, .int .i64 x.p, .int .i64 x.f, .int .i64 x.g, .slice x.sa x.sl x.sc], .bool true]) (by simp [results, Tryz.results92, go_sem]) rfl ⟨rfl, HB⟩
/-- .. where there is none -/
theorem stkAtNo_row (H : Hd w0 (cel s T C :: SlE 127 v l :: R) w) (hC : C[o]? = some v) (i : Int) (h : i < 0 ∨ l.length ≤ i) :
    Calls Tryz.prog 92 #[.pointer (some ⟨s, o, none⟩), .int .i64 i] w fun e w' => e = .returned (.tuple #[.agg #[.string ⟨#[]⟩, .int .i64 0, .int .i64 0, .slice none 0 0, .string ⟨#[]⟩, .int .i64 0, .int .i64 0, .int .i64 0, .slice none 0 0], .bool false]) ∧ Hd w0 (cel s T C :: SlE 127 v l :: R) w' := by
  have HA := ((H.alloc (.cells #[.string ⟨#[]⟩, .int .i64 0, .int .i64 0, .slice none 0 0, .string ⟨#[]⟩, .int .i64 0, .int .i64 0, .int .i64 0, .slice none 0 0] 127)).alloc (.cells #[.string ⟨#[]⟩, .int .i64 0, .int .i64 0, .slice none 0 0, .string ⟨#[]⟩, .int .i64 0, .int .i64 0, .int .i64 0, .slice none 0 0] 127)).tail.tail
  have c0 := (H.alloc (.cells #[.string ⟨#[]⟩, .int .i64 0, .int .i64 0, .slice none 0 0, .string ⟨#[]⟩, .int .i64 0, .int .i64 0, .int .i64 0, .slice none 0 0] 127)).b2.rd o
  rw [hC] at c0
  obtain ⟨a, cap, rfl, _, _, _, _⟩ := H.b2.slc_form
  clear H hC
  rcases h with h | h
  · go_enter Tryz.func92, Tryz.ntmps92
    go_wp2
    (try simp only [Exit.inBlock, Exit.then])
    refine bodyPost_ret (v := .tuple #[.agg #[.string ⟨#[]⟩, .int .i64 0, .int .i64 0, .slice none 0 0, .string ⟨#[]⟩, .int .i64 0, .int .i64 0, .int .i64 0, .slice none 0 0], .bool false]) (by simp [results, Tryz.results92, go_sem]) rfl ⟨rfl, HA⟩
  · have h0 : ¬ i < 0 := by omega
    go_enter Tryz.func92, Tryz.ntmps92
    go_wp2
    (try simp only [Exit.inBlock, Exit.then])
    refine bodyPost_ret (v := .tuple #[.agg #[.string ⟨#[]⟩, .int .i64 0, .int .i64 0, .slice none 0 0, .string ⟨#[]⟩, .int .i64 0, .int .i64 0, .int .i64 0, .slice none 0 0], .bool false]) (by simp [results, Tryz.results92, go_sem]) rfl ⟨rfl, HA⟩
end
end Go.Proofs.YtogcikilphakmaaGreatDoor

/-
  The resource table in plain terms, and how it lies in memory.
-/
namespace Go.Proofs.YtogcikilphakmaaGreatDoor
open Go.RowKit Spl

structure HoM where
  locks : List LockM
  held : List Int
structure JobM where
  job : Int
  h : HoM
instance : Keyed JobM Int := ⟨JobM.job⟩
structure UnM where
  units : List Int
  free : List Int
  cells : List Int
  jobs : List JobM
def rowsOf (jobs : List JobM) (bs : List Nat) : List RowH := List.zipWith (fun j b => ⟨j.job, b⟩) jobs bs
theorem rowsOf_len {jobs : List JobM} {bs : List Nat} (h : bs.length = jobs.length) : (rowsOf jobs bs).length = jobs.length := by simp [rowsOf, h]
theorem rowsOf_at {jobs : List JobM} {bs : List Nat} {i : Nat} {j : JobM} {b : Nat} (hj : jobs[i]? = some j) (hb : bs[i]? = some b) : (rowsOf jobs bs)[i]? = some ⟨j.job, b⟩ := by
  simp [rowsOf, List.getElem?_zipWith, hj, hb]
theorem rowsOf_pos {k : Int} : ∀ {jobs : List JobM} {bs : List Nat} (_ : bs.length = jobs.length), pos (rowsOf jobs bs) k = pos jobs k := by
  intro jobs
  induction jobs with
  | nil => intro bs h; rfl
  | cons j jobs ih =>
    intro bs h
    cases bs with
    | nil => simp at h
    | cons b bs =>
      have h2 := ih (bs := bs) (by simpa using h)
      unfold pos at h2 ⊢
      show ((RowH.mk j.job b :: rowsOf jobs bs).takeWhile _).length = _
      rw [List.takeWhile_cons, List.takeWhile_cons]
      show (if KLt.lt j.job k = true then _ else _ : List RowH).length = (if KLt.lt j.job k = true then _ else _ : List JobM).length
      split
      · simp [h2]
      · rfl
theorem rowsOf_sorted : ∀ {jobs : List JobM} {bs : List Nat} (_ : Sorted jobs), Sorted (rowsOf jobs bs) := by
  intro jobs
  induction jobs with
  | nil => intro bs h; exact List.Pairwise.nil
  | cons j jobs ih =>
    intro bs h
    cases bs with
    | nil => exact List.Pairwise.nil
    | cons b bs =>
      have h2 := List.pairwise_cons.1 h
      refine List.pairwise_cons.2 ⟨?_, ih h2.2⟩
      intro x hx
      obtain ⟨i, hi⟩ := List.getElem?_of_mem hx
      have h3 : (rowsOf jobs bs)[i]? = some x := hi
      unfold rowsOf at h3
      rw [List.getElem?_zipWith] at h3
      cases hj : jobs[i]? with
      | none => rw [hj] at h3; simp at h3
      | some y =>
        cases hb : bs[i]? with
        | none => rw [hj, hb] at h3; simp at h3
        | some c =>
          rw [hj, hb] at h3
          simp at h3
          subst h3
          exact h2.1 y (List.mem_of_getElem? hj)
def hol (b : Nat) (j : JobM) : Pr := ex fun lv : Value => all [cel b 240 (lv :: j.h.held.map (Value.int .i64)).toArray, SlE 296 lv j.h.locks]
structure UnV where
  vu : Value
  vf : Value
  vc : Value
  vj : Value
  bs : List Nat
def UnP (t : Nat) (m : UnM) : Pr := ex fun x : UnV => all [fact (x.bs.length = m.jobs.length), cel t 228 #[x.vu, x.vf, x.vc, x.vj], SlE 3 x.vu m.units, SlE 3 x.vf m.free, SlE 3 x.vc m.cells, SlE 267 x.vj (rowsOf m.jobs x.bs), all (List.zipWith hol x.bs m.jobs)]
instance (b : Nat) (m : UnM) : Key (UnP b m) (.b b) := ⟨trivial⟩
section
variable {w0 w : World} {R : List Pr} {t : Nat} {m : UnM}
theorem UnP.opened (H : Hd w0 (UnP t m :: R) w) : ∃ x : UnV, x.bs.length = m.jobs.length ∧ Hd w0 (cel t 228 #[x.vu, x.vf, x.vc, x.vj] :: SlE 3 x.vu m.units :: SlE 3 x.vf m.free :: SlE 3 x.vc m.cells :: SlE 267 x.vj (rowsOf m.jobs x.bs) :: all (List.zipWith hol x.bs m.jobs) :: R) w := by
  obtain ⟨x, H⟩ := H.out
  have H2 := H.flat
  exact ⟨x, Hd.get H2, H2.tail⟩
theorem UnP.shut {x : UnV} (H : Hd w0 (cel t 228 #[x.vu, x.vf, x.vc, x.vj] :: SlE 3 x.vu m.units :: SlE 3 x.vf m.free :: SlE 3 x.vc m.cells :: SlE 267 x.vj (rowsOf m.jobs x.bs) :: all (List.zipWith hol x.bs m.jobs) :: R) w) (h : x.bs.length = m.jobs.length) : Hd w0 (UnP t m :: R) w :=
  Hd.into x (Hd.pack (L := [_, _, _, _, _, _, _]) (Hd.put h H))
end
end Go.Proofs.YtogcikilphakmaaGreatDoor

/-
  units.Table: has, Free, of.
-/
namespace Go.Proofs.YtogcikilphakmaaGreatDoor
open Go.RowKit Spl
theorem results_row {P : Program} {fn : Func} {p : Tmp} {ty : TypeId} (h : fn.results = #[.cell p ty]) (tmps : Array Value) (w : World) (g : Nat) (t : TypeId) (cs : Array Value) (fr : Nat × Nat) (d : TypeDesc)
    (hp : tmps.getD p undef = .pointer (some ⟨g, 0, none⟩)) (hg : w.heap[g]? = some (.cells cs t fr))
    (hu : P.underlying ty = some d) (hd : (match d with | .struct _ | .array _ _ => true | _ => false) = true) (hi : (P.info? ty).map (·.size) = some cs.size) :
    (results fn tmps).run P w = .ok (.agg cs) w := by
  have hp' : tmps[p]?.getD undef = .pointer (some ⟨g, 0, none⟩) := by simpa using hp
  simp [results, h, hp', asAddr, run_loadVar_row w g t ty cs fr d hg hu hd hi]
section
variable {w0 w : World} {R : List Pr} {t : Nat} {m : UnM}
theorem unHas (H : Hd w0 (UnP t m :: R) w) (r : Nat) (hr : r < m.units.length) : Calls Tryz.prog 110 #[.pointer (some ⟨t, 0, none⟩), .int .i64 r] w fun e w' => e = .returned (.bool true) ∧ w = w' := by
  obtain ⟨⟨vu, vf, vc, vj, bs⟩, hb, H1⟩ := UnP.opened H
  obtain ⟨a, cap, rfl, -, -, -, -⟩ := (H1.tail).slc_form
  have c0 := H1.ce 0 rfl
  have n1 : (0 : Int) ≤ r := by omega
  have n2 : (r : Int) < m.units.length := by omega
  clear H H1 hb
  go_enter Tryz.func110, Tryz.ntmps110
  go_wp2
  go_ret
  exact ⟨rfl, rfl⟩
theorem unHasNo (H : Hd w0 (UnP t m :: R) w) (r : Int) (hr : r < 0 ∨ m.units.length ≤ r) : Calls Tryz.prog 110 #[.pointer (some ⟨t, 0, none⟩), .int .i64 r] w fun e w' => e = .returned (.bool false) ∧ w = w' := by
  obtain ⟨⟨vu, vf, vc, vj, bs⟩, hb, H1⟩ := UnP.opened H
  obtain ⟨a, cap, rfl, -, -, -, -⟩ := (H1.tail).slc_form
  have c0 := H1.ce 0 rfl
  clear H H1 hb
  by_cases h : r < 0
  · clear hr
    go_enter Tryz.func110, Tryz.ntmps110
    go_wp2
    go_ret
    exact ⟨rfl, rfl⟩
  · have n2 : ¬ (r < m.units.length) := by omega
    clear hr
    go_enter Tryz.func110, Tryz.ntmps110
    go_wp2
    go_ret
    exact ⟨rfl, rfl⟩
theorem unFree (H : Hd w0 (UnP t m :: R) w) (r : Nat) (hr : r < m.units.length) {n : Int} (hn : m.free[r]? = some n) : Calls Tryz.prog 160 #[.pointer (some ⟨t, 0, none⟩), .int .i64 r] w fun e w' => e = .returned (.int .i64 n) ∧ w = w' := by
  have hh := unHas H r hr
  obtain ⟨⟨vu, vf, vc, vj, bs⟩, hb, H1⟩ := UnP.opened H
  have hlt := lt_of_get? hn
  obtain ⟨g, cap, rfl, H2⟩ := (H1.v vf).slc_at (by omega)
  have c0 := (H2.k t).ce 1 rfl
  have c1 := H2.slcC_rd (flat_at hn (j := 0) rfl)
  simp only [Enc.size, Nat.add_zero, Nat.mul_one] at c1
  have n1 : ¬ ((r : Int) < 0) := by omega
  have n2 : (r : Int) < m.free.length := by omega
  have n3 : ¬ m.free.length ≤ r := by omega
  clear H H1 H2 hb hn
  go_enter Tryz.func160, Tryz.ntmps160
  go_wp2_with fail
  refine hh.mono ?_
  rintro e w' ⟨rfl, rfl⟩
  go_wp2_with fail
  go_ret
  exact ⟨rfl, rfl⟩
end
end Go.Proofs.YtogcikilphakmaaGreatDoor
